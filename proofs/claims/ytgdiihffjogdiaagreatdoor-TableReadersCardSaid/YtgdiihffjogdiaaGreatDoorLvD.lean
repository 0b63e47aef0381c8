/- The rules of the operations, continued: arithmetic, addresses, slices, strings. -/
import Derived.Test.YtgdiihffjogdiaaGreatDoorLvB
set_option linter.unusedSimpArgs false
set_option linter.unusedVariables false
namespace Go.Lift

def packR : List Value → Value
  | [v] => v
  | vs => .tuple vs.toArray
def CallsD (D : Prop) (P : Program) (f : FuncId) (args : Array Value) (h : Hp) (Q : List Value → Hp → Prop) : Prop :=
  ∀ w : World, w.heap = h → Calls P f args w fun e w' => ∃ vs, e = .returned (packR vs) ∧ KeptD D w w' ∧ Q vs w'.heap
def NextOK (D : Prop) (P : Program) (K : Value → Hp → Prop) : Next → Hp → Prop
  | .value v, h => K v h
  | .skip, h => K undef h
  | .enter f args, h => CallsD D P f args h fun vs h' => K (packR vs) h'
  | _, _ => False
def FnD (D : Prop) (P : Program) (f : FuncId) (args : Array Value) (h : Hp) (Q : List Value → Hp → Prop) : Prop :=
  semW P (callFunc f args) h (NextOK D P fun v h' => ∃ vs, v = packR vs ∧ Q vs h')

abbrev Fr := Nat → Option Value
def e1 (x : Option Value) (K : Value → Prop) : Prop := match x with | some v => K v | none => False
def ev (ρ : Fr) : Operand → Option Value
  | .tmp t => ρ t
  | .const v => some v
  | .global g => some (.pointer (some ⟨g, 0, none⟩))
  | .func f => some (.func (.func f) #[] #[])
def evL (ρ : Fr) : List Operand → Option (List Value)
  | [] => some []
  | x :: xs => match ev ρ x, evL ρ xs with | some v, some vs => some (v :: vs) | _, _ => none
def evP (ρ : Fr) : List (Nat × Operand) → Option (List (Nat × Value))
  | [] => some []
  | x :: xs => match ev ρ x.2, evP ρ xs with | some v, some vs => some ((x.1, v) :: vs) | _, _ => none
def eL (x : Option (List Value)) (K : List Value → Prop) : Prop := match x with | some v => K v | none => False
theorem e1_some {x : Option Value} {K : Value → Prop} (h : e1 x K) : ∃ v, x = some v ∧ K v := by
  cases x with
  | none => exact h.elim
  | some v => exact ⟨v, rfl, h⟩
theorem eL_some {x : Option (List Value)} {K : List Value → Prop} (h : eL x K) : ∃ v, x = some v ∧ K v := by
  cases x with
  | none => exact h.elim
  | some v => exact ⟨v, rfl, h⟩
theorem evL_eq {ρ : Fr} {ρ' : Operand → Value} (hρ : ∀ x v, ev ρ x = some v → ρ' x = v) : ∀ (xs : List Operand) (vs : List Value), evL ρ xs = some vs → xs.map ρ' = vs
  | [], vs, h => by simp [evL] at h; simp [h]
  | x :: xs, vs, h => by
    simp only [evL] at h
    split at h
    · rename_i v us h1 h2
      have h3 := evL_eq hρ xs us h2
      simp at h
      rw [List.map_cons, h3, hρ _ _ h1, h]
    · cases h
theorem evP_eq {ρ : Fr} {ρ' : Operand → Value} (hρ : ∀ x v, ev ρ x = some v → ρ' x = v) : ∀ (xs : List (Nat × Operand)) (vs : List (Nat × Value)), evP ρ xs = some vs → xs.map (fun p => (p.1, ρ' p.2)) = vs
  | [], vs, h => by simp [evP] at h; simp [h]
  | x :: xs, vs, h => by
    simp only [evP] at h
    split at h
    · rename_i v us h1 h2
      have h3 := evP_eq hρ xs us h2
      simp at h
      rw [List.map_cons, h3, hρ _ _ h1, h]
    · cases h

/-! ### integers, strings, bools -/
def iAnd (k : IntKind) (a b : Int) : Int := k.wrap ((BitVec.ofInt k.bits a &&& BitVec.ofInt k.bits b).toNat : Int)
def iOr (k : IntKind) (a b : Int) : Int := k.wrap ((BitVec.ofInt k.bits a ||| BitVec.ofInt k.bits b).toNat : Int)
def iXor (k : IntKind) (a b : Int) : Int := k.wrap ((BitVec.ofInt k.bits a ^^^ BitVec.ofInt k.bits b).toNat : Int)
def iAndNot (k : IntKind) (a b : Int) : Int := k.wrap ((BitVec.ofInt k.bits a &&& ~~~(BitVec.ofInt k.bits b)).toNat : Int)
def iShl (k : IntKind) (a b : Int) : Int := k.wrap (a * 2 ^ (min b.toNat k.bits))
def iShr (k : IntKind) (a b : Int) : Int := a.fdiv (2 ^ (min b.toNat k.bits))
def divOk (b : Int) (p : Prop) : Prop := b ≠ 0 ∧ p
def shOk (b : Int) (p : Prop) : Prop := 0 ≤ b ∧ p
def catOk (s t : ByteArray) (p : Prop) : Prop := ((s.size + t.size : Nat) : Int) ≤ IntKind.i64.max ∧ p
def binI (op : BinOp) (k : IntKind) (a b : Int) (K : Value → Prop) : Prop :=
  match op with
  | .add => K (.int k (k.wrap (a + b)))
  | .sub => K (.int k (k.wrap (a - b)))
  | .mul => K (.int k (k.wrap (a * b)))
  | .quo => divOk b (K (.int k (k.wrap (a.tdiv b))))
  | .rem => divOk b (K (.int k (a.tmod b)))
  | .and => K (.int k (iAnd k a b))
  | .or => K (.int k (iOr k a b))
  | .xor => K (.int k (iXor k a b))
  | .andNot => K (.int k (iAndNot k a b))
  | .eql => K (.bool (a == b))
  | .neq => K (.bool (a != b))
  | .lss => K (.bool (decide (a < b)))
  | .leq => K (.bool (decide (a ≤ b)))
  | .gtr => K (.bool (decide (a > b)))
  | .geq => K (.bool (decide (a ≥ b)))
  | _ => False
def binS (op : BinOp) (s t : ByteArray) (K : Value → Prop) : Prop :=
  match op with
  | .add => catOk s t (K (.string (s ++ t)))
  | .eql => K (.bool (s.toList == t.toList))
  | .neq => K (.bool (!(s.toList == t.toList)))
  | .lss => K (.bool (Op.bytesLess s.toList t.toList))
  | .leq => K (.bool (Op.bytesLess s.toList t.toList || s.toList == t.toList))
  | .gtr => K (.bool (!(Op.bytesLess s.toList t.toList || s.toList == t.toList)))
  | .geq => K (.bool (!(Op.bytesLess s.toList t.toList)))
  | _ => False
def nilB : Value → Option Bool
  | .pointer p => some p.isNone
  | .slice a _ _ => some a.isNone
  | .map r => some r.isNone
  | .func _ _ _ => some false
  | .nilFunc => some true
  | _ => none
def isNilLit : Value → Bool
  | .pointer none => true
  | .slice none _ _ => true
  | .map none => true
  | .nilFunc => true
  | _ => false
def kindOk : TypeDesc → Value → Bool
  | .pointer _, .pointer _ => true
  | .slice _, .slice _ _ _ => true
  | .map _ _, .map _ => true
  | .func _ _ _, .func _ _ _ => true
  | .func _ _ _, .nilFunc => true
  | _, _ => false
def fltB (op : BinOp) (k : FloatKind) (a b : Nat) (K : Value → Prop) : Prop :=
  match op with
  | .eql => K (.bool (k.format.order a b == some .eq))
  | .neq => K (.bool (k.format.order a b != some .eq))
  | .lss => K (.bool (k.format.order a b == some .lt))
  | .gtr => K (.bool (k.format.order a b == some .gt))
  | _ => False
/-! scalars, and rows of them -/
def keyS : Value → Value → Bool
  | .int _ a, .int _ b => a == b
  | .string a, .string b => a == b
  | .bool a, .bool b => a == b
  | _, _ => false
def likeS : Value → Value → Bool
  | .int k _, .int k' _ => decide (k = k')
  | .string _, .string _ => true
  | .bool _, .bool _ => true
  | _, _ => false
def kindS : TypeDesc → Value → Bool
  | .int _, .int _ _ => true
  | .string, .string _ => true
  | .bool, .bool _ => true
  | _, _ => false
def eqCS : List Value → List Value → Bool
  | [], [] => true
  | x :: xs, y :: ys => keyS x y && eqCS xs ys
  | _, _ => false
def likeCS : List Value → List Value → Bool
  | [], [] => true
  | x :: xs, y :: ys => likeS x y && likeCS xs ys
  | _, _ => false
def kindT (P : Program) (t : TypeId) (v : Value) : Bool := match P.underlying t with | some d => kindS d v | none => false
def fitF (P : Program) : List Field → Nat → List Value → Bool
  | [], _, [] => true
  | f :: fs, i, v :: vs => Nat.beq f.offset i && (f.name != "_") && kindT P f.type v && fitF P fs (i + 1) vs
  | _, _, _ => false
def flatK (P : Program) (t : TypeId) (cs : List Value) : Bool :=
  match P.underlying t with
  | some (.array n e) => decide (cs.length = n) && decide ((P.info? e).map (·.size) = some 1) && cs.all (kindT P e)
  | some (.struct fs) => fitF P fs.toList 0 cs && !(P.stoodInHeld t)
  | _ => false
def eqInts : List Value → List Value → Option Bool
  | [], [] => some true
  | .int k a :: xs, .int k' b :: ys => match decide (k = k'), eqInts xs ys with | true, some r => some (a == b && r) | _, _ => none
  | _, _ => none
def aggEq (P : Program) (t : TypeId) (xs ys : Array Value) : Option Bool :=
  match P.underlying t with
  | some (.array n e) => match P.underlying e with
    | some (.int _) => match decide (xs.size = n) && decide (ys.size = n) && decide ((P.info? e).map (·.size) = some 1) && !(P.eqGuardType P.depth t) with
      | true => eqInts xs.toList ys.toList
      | false => none
    | _ => none
  | some (.struct _) => match flatK P t xs.toList && flatK P t ys.toList && likeCS xs.toList ys.toList && !(P.eqGuardType P.depth t) with
    | true => some (eqCS xs.toList ys.toList)
    | false => none
  | _ => none
/-- Is a type's size known, and not nothing? -/
def szNZ (P : Program) (e : TypeId) : Bool := match (P.info? e).map (·.size) with | some (_ + 1) => true | _ => false
/-- Two pointers compared: one of them nil, or both into one block. -/
def ptrW (ok : Bool) (p q : Option Addr) (K : Bool → Prop) : Prop :=
  match q with
  | none => K p.isNone
  | some b => match p with
    | none => K false
    | some a => ok = true ∧ a.block = b.block ∧ K (a == b)
def binW (P : Program) (op : BinOp) (t : TypeId) (x y : Value) (K : Value → Prop) : Prop :=
  match x, y with
  | .int k a, .int k' b =>
    match op with
    | .shl => shOk b (K (.int k (iShl k a b)))
    | .shr => shOk b (K (.int k (iShr k a b)))
    | op => match decide (k = k') with | true => binI op k a b K | false => False
  | .string s, .string u => binS op s u K
  | .float k a, .float k' b => match decide (k = k') with | true => fltB op k a b K | false => False
  | .bool a, .bool b =>
    match P.underlying t with
    | some .bool => match op with | .eql => K (.bool (a == b)) | .neq => K (.bool (!(a == b))) | _ => False
    | _ => False
  | .agg xs, .agg ys =>
    match aggEq P t xs ys, op with
    | some b, .eql => K (.bool b)
    | some b, .neq => K (.bool (!b))
    | _, _ => False
  | .pointer p, .pointer q =>
    match P.underlying t with
    | some (.pointer e) => match op with
      | .eql => ptrW (szNZ P e) p q fun b => K (.bool b)
      | .neq => ptrW (szNZ P e) p q fun b => K (.bool (!b))
      | _ => False
    | _ => False
  | x, y =>
    match P.underlying t with
    | some d => match kindOk d x && kindOk d y && isNilLit y with
      | true => match nilB x, op with
        | some b, .eql => K (.bool b)
        | some b, .neq => K (.bool (!b))
        | _, _ => False
      | false => False
    | none => False

section
variable {P : Program} {h : Hp}
theorem equalIn_bool (d : Nat) {t : TypeId} (ht : P.underlying t = some .bool) (a b : Bool) (K : Bool → Hp → Prop) (H : K (a == b) h) : semR P (Op.equalIn (d + 1) t (.bool a) (.bool b)) h K := by
  simp only [Op.equalIn, semR_bind', semR_underlying]
  exact ⟨_, ht, H⟩
theorem equal_bool {t : TypeId} (ht : P.underlying t = some .bool) (a b : Bool) (K : Bool → Hp → Prop) (H : K (a == b) h) : semR P (Op.equal t (.bool a) (.bool b)) h K :=
  equalIn_bool 9999 ht a b K H
theorem equalIn_nil (depth : Nat) {t : TypeId} {d : TypeDesc} (ht : P.underlying t = some d) {x y : Value} {b : Bool} (h1 : kindOk d x = true) (h2 : kindOk d y = true) (h3 : isNilLit y = true) (h4 : nilB x = some b)
    (K : Bool → Hp → Prop) (H : K b h) : semR P (Op.equalIn (depth + 1) t x y) h K := by
  simp only [Op.equalIn, semR_bind', semR_underlying]
  refine ⟨d, ht, ?_⟩
  cases d <;> cases x <;> simp only [kindOk, Bool.false_eq_true] at h1 <;> cases y <;> simp only [kindOk, Bool.false_eq_true] at h2 <;> simp only [nilB, Option.some.injEq, reduceCtorEq] at h4 <;> subst h4
  · rename_i e p q
    cases q with
    | some q => simp [isNilLit] at h3
    | none => cases p <;> exact H
  · rename_i e a n c a' n' c'
    cases a' with
    | some q => simp [isNilLit] at h3
    | none => cases a <;> exact H
  · rename_i k e r r'
    cases r' with
    | some q => simp [isNilLit] at h3
    | none => cases r <;> exact H
  · simp [isNilLit] at h3
  · exact H
  · simp [isNilLit] at h3
  · exact H

theorem equal_nil {t : TypeId} {d : TypeDesc} (ht : P.underlying t = some d) {x y : Value} {b : Bool} (h1 : kindOk d x = true) (h2 : kindOk d y = true) (h3 : isNilLit y = true) (h4 : nilB x = some b)
    (K : Bool → Hp → Prop) (H : K b h) : semR P (Op.equal t x y) h K := equalIn_nil 9999 ht h1 h2 h3 h4 K H

theorem equalIn_ptr (depth : Nat) {t e : TypeId} (ht : P.underlying t = some (.pointer e)) {p q : Option Addr} (K : Bool → Hp → Prop) (H : ptrW (szNZ P e) p q fun b => K b h) : semR P (Op.equalIn (depth + 1) t (.pointer p) (.pointer q)) h K := by
  simp only [Op.equalIn, semR_bind', semR_underlying]
  refine ⟨_, ht, ?_⟩
  cases q with
  | none => cases p <;> exact H
  | some b =>
    cases p with
    | none => exact H
    | some a =>
      obtain ⟨h1, h2, h3⟩ := H
      simp only [semR_bind', semR_sizeOf]
      unfold szNZ at h1
      split at h1
      · rename_i n hn
        refine ⟨_, hn, ?_⟩
        rw [if_pos (by omega)]
        unfold sameAddr
        rw [if_pos (by simp [h2])]
        exact h3
      · cases h1
theorem equal_ptr {t e : TypeId} (ht : P.underlying t = some (.pointer e)) {p q : Option Addr} (K : Bool → Hp → Prop) (H : ptrW (szNZ P e) p q fun b => K b h) : semR P (Op.equal t (.pointer p) (.pointer q)) h K := equalIn_ptr 9999 ht K H
theorem ptrW_mono {ok : Bool} {p q : Option Addr} {K K' : Bool → Prop} (H : ptrW ok p q K) (HK : ∀ b, K b → K' b) : ptrW ok p q K' := by
  unfold ptrW at H ⊢
  split at H
  · exact HK _ H
  · split at H
    · exact HK _ H
    · exact ⟨H.1, H.2.1, HK _ H.2.2⟩

theorem equalIn_int (d : Nat) {e : TypeId} {kk k : IntKind} (he : P.underlying e = some (.int kk)) (a b : Int) (K : Bool → Hp → Prop) (H : K (a == b) h) : semR P (Op.equalIn (d + 1) e (.int k a) (.int k b)) h K := by
  unfold Op.equalIn
  simp only [semR_bind', semR_underlying]
  exact ⟨_, he, by simp only [if_true]; exact H⟩
theorem part_int {e : TypeId} {kk : IntKind} (he : P.underlying e = some (.int kk)) {xs : Array Value} {i : Nat} {v : Value} (hv : xs[i]? = some v) (K : Value → Hp → Prop) (H : K v h) : semR P (part e xs i) h K := by
  unfold part
  simp only [semR_bind', semR_isAgg]
  refine ⟨_, he, ?_⟩
  simp only [isAggB, Bool.false_eq_true, if_false]
  rw [hv]
  exact H
theorem loop_ints (d : Nat) {e : TypeId} {kk : IntKind} (he : P.underlying e = some (.int kk)) {xs ys : Array Value} (K : Option Bool × Unit → Hp → Prop) : ∀ (m i : Nat) (b : Bool), eqInts (xs.toList.drop i) (ys.toList.drop i) = some b → xs.size = i + m → ys.size = i + m →
    K (if b then none else some false, ()) h → semR P (forIn (List.range' i m) (none, ()) fun i __s => do
      let __do_lift ← part e xs (i * 1)
      let __do_lift_1 ← part e ys (i * 1)
      let __do_lift ← Op.equalIn (d + 1) e __do_lift __do_lift_1
      if (!__do_lift) = true then pure (ForInStep.done (some false, ())) else pure (ForInStep.yield (none, ()))) h K
  | 0, i, b, hb, h1, h2, H => by
    rw [List.drop_eq_nil_of_le (by simp; omega), List.drop_eq_nil_of_le (by simp; omega)] at hb
    cases hb
    exact H
  | m + 1, i, b, hb, h1, h2, H => by
    rw [List.drop_eq_getElem_cons (by simp; omega), List.drop_eq_getElem_cons (i := i) (l := ys.toList) (by simp; omega)] at hb
    cases hx : xs.toList[i]'(by simp; omega) with
    | int k a =>
      cases hy : ys.toList[i]'(by simp; omega) with
      | int k' a' =>
        rw [hx, hy] at hb
        simp only [eqInts] at hb
        by_cases hk : k = k'
        · subst hk
          cases hr : eqInts (xs.toList.drop (i + 1)) (ys.toList.drop (i + 1)) with
          | none => rw [hr] at hb; simp at hb
          | some r =>
            rw [hr] at hb
            simp at hb
            subst hb
            rw [List.range'_succ, List.forIn_cons]
            simp only [semR_bind', Nat.mul_one]
            refine part_int he (v := .int k a) (by rw [← hx]; simp) _ ?_
            refine part_int he (v := .int k a') (by rw [← hy]; simp) _ ?_
            refine equalIn_int d he a a' _ ?_
            cases hab : a == a' with
            | true =>
              simp only [Bool.not_true, Bool.false_eq_true, if_false, semR_pure]
              have := loop_ints d he K m (i + 1) r hr (by omega) (by omega) (by simpa [hab] using H)
              simpa [Nat.mul_one] using this
            | false =>
              simp only [Bool.not_false, if_true, semR_pure]
              simpa [hab] using H
        · simp [hk] at hb
      | _ => rw [hx, hy] at hb; simp [eqInts] at hb
    | _ => rw [hx] at hb; simp [eqInts] at hb
theorem equalIn_arr (d : Nat) {t e : TypeId} {n : Nat} {kk : IntKind} (ht : P.underlying t = some (.array n e)) (he : P.underlying e = some (.int kk)) (hs : (P.info? e).map (·.size) = some 1) {xs ys : Array Value} {b : Bool} (h1 : xs.size = n) (h2 : ys.size = n) (hb : eqInts xs.toList ys.toList = some b)
    (K : Bool → Hp → Prop) (H : K b h) : semR P (Op.equalIn (d + 2) t (.agg xs) (.agg ys)) h K := by
  rw [Op.equalIn]
  simp only [semR_bind', semR_underlying]
  refine ⟨_, ht, ?_⟩
  simp only [semR_bind', semR_sizeOf]
  refine ⟨1, hs, ?_⟩
  simp only [Std.Legacy.Range.forIn_eq_forIn_range', Std.Legacy.Range.size]
  have := loop_ints (P := P) (h := h) d he (xs := xs) (ys := ys) (fun a h' => a = (if b then none else some false, ()) ∧ h' = h) n 0 b (by simpa using hb) (by omega) (by omega) ⟨rfl, rfl⟩
  simp only [Nat.sub_zero, Nat.add_sub_cancel, Nat.div_one]
  refine semR_mono _ h (fun a ha => ?_) this
  obtain ⟨rfl, _⟩ := ha
  cases b <;> exact H
theorem kindT_open {t : TypeId} {v : Value} (hk : kindT P t v = true) : ∃ d, P.underlying t = some d ∧ kindS d v = true := by
  unfold kindT at hk
  split at hk
  · rename_i d hd; exact ⟨d, hd, hk⟩
  · cases hk
theorem equalIn_scal (d : Nat) {e : TypeId} {v u : Value} (hk : kindT P e v = true) (hl : likeS v u = true) (K : Bool → Hp → Prop) (H : K (keyS v u) h) : semR P (Op.equalIn (d + 1) e v u) h K := by
  obtain ⟨dd, he, hk⟩ := kindT_open hk
  cases dd <;> cases v <;> simp only [kindS, Bool.false_eq_true] at hk <;> cases u <;> simp only [likeS, Bool.false_eq_true, decide_eq_true_eq] at hl
  · exact equalIn_bool d he _ _ K H
  · subst hl; exact equalIn_int d he _ _ K H
  · unfold Op.equalIn
    simp only [semR_bind', semR_underlying]
    exact ⟨_, he, H⟩
theorem part_scal {e : TypeId} {xs : Array Value} {i : Nat} {v : Value} (hk : kindT P e v = true) (hv : xs[i]? = some v) (K : Value → Hp → Prop) (H : K v h) : semR P (part e xs i) h K := by
  obtain ⟨dd, he, hk⟩ := kindT_open hk
  unfold part
  simp only [semR_bind', semR_isAgg]
  refine ⟨_, he, ?_⟩
  have : isAggB dd = false := by cases dd <;> cases v <;> simp only [kindS, Bool.false_eq_true] at hk <;> rfl
  rw [this]
  simp only [Bool.false_eq_true, if_false]
  rw [hv]
  exact H
theorem likeCS_len : ∀ {xs ys : List Value}, likeCS xs ys = true → xs.length = ys.length
  | [], [], _ => rfl
  | _ :: xs, _ :: ys, h => by simp only [likeCS, Bool.and_eq_true] at h; simp [likeCS_len h.2]
  | [], _ :: _, h => by simp [likeCS] at h
  | _ :: _, [], h => by simp [likeCS] at h
theorem loop_scal (d : Nat) {e : TypeId} {xs ys : Array Value} (K : Option Bool × Unit → Hp → Prop) : ∀ (m i : Nat), (xs.toList.drop i).all (kindT P e) = true → (ys.toList.drop i).all (kindT P e) = true → likeCS (xs.toList.drop i) (ys.toList.drop i) = true → xs.size = i + m → ys.size = i + m →
    K (if eqCS (xs.toList.drop i) (ys.toList.drop i) then none else some false, ()) h → semR P (forIn (List.range' i m) (none, ()) fun i __s => do
      let __do_lift ← part e xs (i * 1)
      let __do_lift_1 ← part e ys (i * 1)
      let __do_lift ← Op.equalIn (d + 1) e __do_lift __do_lift_1
      if (!__do_lift) = true then pure (ForInStep.done (some false, ())) else pure (ForInStep.yield (none, ()))) h K
  | 0, i, _, _, _, h1, h2, H => by
    rw [List.drop_eq_nil_of_le (by simp; omega), List.drop_eq_nil_of_le (by simp; omega)] at H
    exact H
  | m + 1, i, k1, k2, k3, h1, h2, H => by
    rw [List.drop_eq_getElem_cons (by simp; omega)] at k1
    rw [List.drop_eq_getElem_cons (by simp; omega)] at k2
    rw [List.drop_eq_getElem_cons (by simp; omega), List.drop_eq_getElem_cons (i := i) (l := ys.toList) (by simp; omega)] at k3 H
    simp only [List.all_cons, Bool.and_eq_true] at k1 k2
    simp only [likeCS, Bool.and_eq_true] at k3
    rw [List.range'_succ, List.forIn_cons]
    simp only [semR_bind', Nat.mul_one]
    refine part_scal k1.1 (by simp) _ ?_
    refine part_scal k2.1 (by simp) _ ?_
    refine equalIn_scal d k1.1 k3.1 _ ?_
    cases hab : keyS (xs.toList[i]'(by simp; omega)) (ys.toList[i]'(by simp; omega)) with
    | true =>
      simp only [Bool.not_true, Bool.false_eq_true, if_false, semR_pure]
      have := loop_scal d K m (i + 1) k1.2 k2.2 k3.2 (by omega) (by omega) (by
        have hE : eqCS (xs.toList[i]'(by simp; omega) :: xs.toList.drop (i + 1)) (ys.toList[i]'(by simp; omega) :: ys.toList.drop (i + 1)) = eqCS (xs.toList.drop (i + 1)) (ys.toList.drop (i + 1)) := by simp only [eqCS, hab, Bool.true_and]
        rw [hE] at H; exact H)
      simpa [Nat.mul_one] using this
    | false =>
      simp only [Bool.not_false, if_true, semR_pure]
      have hE : eqCS (xs.toList[i]'(by simp; omega) :: xs.toList.drop (i + 1)) (ys.toList[i]'(by simp; omega) :: ys.toList.drop (i + 1)) = false := by simp only [eqCS, hab, Bool.false_and]
      rw [hE] at H
      exact H
theorem loop_fld (d : Nat) {xs ys : Array Value} (K : Option Bool × Unit → Hp → Prop) : ∀ (fs : List Field) (i : Nat), fitF P fs i (xs.toList.drop i) = true → fitF P fs i (ys.toList.drop i) = true → likeCS (xs.toList.drop i) (ys.toList.drop i) = true →
    K (if eqCS (xs.toList.drop i) (ys.toList.drop i) then none else some false, ()) h → semR P (forIn fs (none, ()) fun f __s =>
      if f.name ≠ "_" then do
        let __do_lift ← part f.type xs f.offset
        let __do_lift_1 ← part f.type ys f.offset
        let __do_lift ← Op.equalIn (d + 1) f.type __do_lift __do_lift_1
        if (!__do_lift) = true then pure (ForInStep.done (some false, ())) else pure (ForInStep.yield (none, ()))
      else pure (ForInStep.yield (none, ()))) h K
  | [], i, k1, k2, _, H => by
    have e1 : xs.toList.drop i = [] := by cases hx : xs.toList.drop i with | nil => rfl | cons a l => rw [hx] at k1; simp [fitF] at k1
    have e2 : ys.toList.drop i = [] := by cases hx : ys.toList.drop i with | nil => rfl | cons a l => rw [hx] at k2; simp [fitF] at k2
    rw [e1, e2] at H
    exact H
  | f :: fs, i, k1, k2, k3, H => by
    have lx : i < xs.size := by
      rcases Nat.lt_or_ge i xs.size with g | g
      · exact g
      · rw [List.drop_eq_nil_of_le (by simpa using g)] at k1; simp [fitF] at k1
    have ly : i < ys.size := by
      rcases Nat.lt_or_ge i ys.size with g | g
      · exact g
      · rw [List.drop_eq_nil_of_le (by simpa using g)] at k2; simp [fitF] at k2
    rw [List.drop_eq_getElem_cons (by simpa using lx)] at k1
    rw [List.drop_eq_getElem_cons (by simpa using ly)] at k2
    rw [List.drop_eq_getElem_cons (by simpa using lx), List.drop_eq_getElem_cons (i := i) (l := ys.toList) (by simpa using ly)] at k3 H
    simp only [fitF, Bool.and_eq_true, bne_iff_ne, Nat.beq_eq] at k1 k2
    simp only [likeCS, Bool.and_eq_true] at k3
    obtain ⟨⟨⟨a1, a2⟩, a3⟩, a4⟩ := k1
    obtain ⟨⟨_, b3⟩, b4⟩ := k2
    rw [List.forIn_cons, semR_bind']
    rw [if_pos a2]
    simp only [semR_bind']
    refine part_scal a3 (by rw [a1]; simp) _ ?_
    refine part_scal b3 (by rw [a1]; simp) _ ?_
    refine equalIn_scal d a3 k3.1 _ ?_
    cases hab : keyS (xs.toList[i]'(by simpa using lx)) (ys.toList[i]'(by simpa using ly)) with
    | true =>
      simp only [Bool.not_true, Bool.false_eq_true, if_false, semR_pure]
      exact loop_fld d K fs (i + 1) a4 b4 k3.2 (by
        have hE : eqCS (xs.toList[i]'(by simpa using lx) :: xs.toList.drop (i + 1)) (ys.toList[i]'(by simpa using ly) :: ys.toList.drop (i + 1)) = eqCS (xs.toList.drop (i + 1)) (ys.toList.drop (i + 1)) := by simp only [eqCS, hab, Bool.true_and]
        rw [hE] at H; exact H)
    | false =>
      simp only [Bool.not_false, if_true, semR_pure]
      have hE : eqCS (xs.toList[i]'(by simpa using lx) :: xs.toList.drop (i + 1)) (ys.toList[i]'(by simpa using ly) :: ys.toList.drop (i + 1)) = false := by simp only [eqCS, hab, Bool.false_and]
      rw [hE] at H
      exact H
theorem equalIn_flat (d : Nat) {t : TypeId} {xs ys : Array Value} (h1 : flatK P t xs.toList = true) (h2 : flatK P t ys.toList = true) (h3 : likeCS xs.toList ys.toList = true) (K : Bool → Hp → Prop) (H : K (eqCS xs.toList ys.toList) h) :
    semR P (Op.equalIn (d + 2) t (.agg xs) (.agg ys)) h K := by
  unfold flatK at h1 h2
  split at h1
  · rename_i n e ht
    rw [ht] at h2
    simp only [Bool.and_eq_true, decide_eq_true_eq] at h1 h2
    obtain ⟨⟨a1, a2⟩, a3⟩ := h1
    obtain ⟨⟨b1, _⟩, b3⟩ := h2
    rw [Op.equalIn]
    simp only [semR_bind', semR_underlying]
    refine ⟨_, ht, ?_⟩
    simp only [semR_bind', semR_sizeOf]
    refine ⟨1, a2, ?_⟩
    simp only [Std.Legacy.Range.forIn_eq_forIn_range', Std.Legacy.Range.size]
    have := loop_scal (P := P) (h := h) d (e := e) (xs := xs) (ys := ys) (fun a h' => a = (if eqCS xs.toList ys.toList then none else some false, ()) ∧ h' = h) n 0 (by simpa using a3) (by simpa using b3) (by simpa using h3) (by simpa using a1) (by simpa using b1) ⟨by simp, rfl⟩
    simp only [Nat.sub_zero, Nat.add_sub_cancel, Nat.div_one]
    refine semR_mono _ h (fun a ha => ?_) this
    obtain ⟨rfl, _⟩ := ha
    cases hb : eqCS xs.toList ys.toList <;> rw [hb] at H <;> exact H
  · rename_i fs ht
    rw [ht] at h2
    simp only [Bool.and_eq_true, Bool.not_eq_true'] at h1 h2
    rw [Op.equalIn]
    simp only [semR_bind', semR_underlying]
    refine ⟨_, ht, ?_⟩
    simp only [semR_bind', semR_program, h1.2, Bool.false_eq_true, if_false]
    rw [← Array.forIn_toList]
    have := loop_fld (P := P) (h := h) d (xs := xs) (ys := ys) (fun a h' => a = (if eqCS xs.toList ys.toList then none else some false, ()) ∧ h' = h) fs.toList 0 (by simpa using h1.1) (by simpa using h2.1) (by simpa using h3) ⟨by simp, rfl⟩
    refine semR_mono _ h (fun a ha => ?_) this
    obtain ⟨rfl, _⟩ := ha
    cases hb : eqCS xs.toList ys.toList <;> rw [hb] at H <;> exact H
  · cases h1
theorem aggEq_open {t : TypeId} {xs ys : Array Value} {b : Bool} (hb : aggEq P t xs ys = some b) : P.eqGuardType P.depth t = false ∧ ∀ (K : Bool → Hp → Prop), K b h → semR P (Op.equal t (.agg xs) (.agg ys)) h K := by
  unfold aggEq at hb
  split at hb
  · rename_i n e ht
    split at hb
    · rename_i kk he
      split at hb
      · rename_i hc
        simp only [Bool.and_eq_true, decide_eq_true_eq, Bool.not_eq_true'] at hc
        obtain ⟨⟨⟨h1, h2⟩, h3⟩, h4⟩ := hc
        exact ⟨h4, fun K H => equalIn_arr 9998 ht he h3 h1 h2 hb K H⟩
      · cases hb
    · cases hb
  · split at hb
    · rename_i hc
      simp only [Bool.and_eq_true, Bool.not_eq_true'] at hc
      cases hb
      exact ⟨hc.2, fun K H => equalIn_flat 9998 hc.1.1.1 hc.1.1.2 hc.1.2 K H⟩
    · cases hb
  · cases hb
theorem binI_sound {op : BinOp} {k : IntKind} {a b : Int} {t : TypeId} {K : Value → Prop} {K' : Value → Hp → Prop} (H : binI op k a b K) (HK : ∀ v, K v → K' v h) :
    semR P (binOp op t (.int k a) (.int k b)) h K' := by
  cases op <;> simp only [binI] at H
  case quo => unfold binOp; simp only [ne_eq, not_true_eq_false, if_false, Op.intDiv]; rw [if_neg H.1]; exact HK _ H.2
  case rem => unfold binOp; simp only [ne_eq, not_true_eq_false, if_false, Op.intDiv]; rw [if_neg H.1]; exact HK _ H.2
  all_goals (unfold binOp; simp only [ne_eq, not_true_eq_false, if_false]; exact HK _ H)
theorem binS_sound {op : BinOp} {a b : ByteArray} {t : TypeId} {K : Value → Prop} {K' : Value → Hp → Prop} (H : binS op a b K) (HK : ∀ v, K v → K' v h) :
    semR P (binOp op t (.string a) (.string b)) h K' := by
  cases op <;> simp only [binS] at H
  case add =>
    unfold binOp; simp only [Op.stringOp]
    rw [if_neg (by have := H.1; omega)]; exact HK _ H.2
  all_goals (unfold binOp; exact HK _ H)

theorem eqGuard_sound {op : BinOp} {t : TypeId} {x y : Operand} {a b : Value} (hn : ¬ (a = .nilIface ∧ b = .nilIface)) (hg : ∀ c d, ¬ (a = .agg c ∧ b = .agg d)) (K : Unit → Hp → Prop) (H : K () h) : semR P (eqGuard op t x y a b) h K := by
  unfold eqGuard
  cases op
  case eql | neq =>
    simp only [Bool.not_true, Bool.false_eq_true, if_false]
    split
    · exact absurd ⟨rfl, rfl⟩ hn
    · exact absurd ⟨rfl, rfl⟩ (hg _ _)
    · exact H
  all_goals exact H

theorem binW_sound {op : BinOp} {t : TypeId} {xo yo : Operand} {x y : Value} {K : Value → Prop} {K' : Value → Hp → Prop} (H : binW P op t x y K) (HK : ∀ v, K v → K' v h) :
    semR P (do eqGuard op t xo yo x y; binOp op t x y) h K' := by
  rw [semR_bind']
  unfold binW at H
  split at H
  · rename_i k a k' b
    refine eqGuard_sound (by simp) (by simp) _ ?_
    split at H
    · unfold binOp; simp only [Op.shift]; rw [if_neg (by have := H.1; omega)]; exact HK _ H.2
    · unfold binOp; simp only [Op.shift]; rw [if_neg (by have := H.1; omega)]; exact HK _ H.2
    · split at H
      · rename_i hk
        have := of_decide_eq_true hk
        subst this
        exact binI_sound H HK
      · exact H.elim
  · exact eqGuard_sound (by simp) (by simp) _ (binS_sound H HK)
  · rename_i k a k' b
    refine eqGuard_sound (by simp) (by simp) _ ?_
    split at H
    · rename_i hk
      have := of_decide_eq_true hk
      subst this
      unfold fltB at H
      split at H
      iterate 4 (· unfold binOp; simp only [ne_eq, not_true_eq_false, if_false, Op.floatCmp, semR_pure]; exact HK _ H)
      exact H.elim
    · exact H.elim
  · rename_i a b
    refine eqGuard_sound (by simp) (by simp) _ ?_
    split at H
    · rename_i ht
      split at H
      · unfold binOp; simp only [semR_bind']; exact equal_bool ht _ _ _ (HK _ H)
      · unfold binOp; simp only [semR_bind']; exact equal_bool ht _ _ _ (HK _ H)
      · exact H.elim
    · exact H.elim
  · rename_i xs ys
    split at H
    · rename_i b hb
      obtain ⟨hg, he⟩ := aggEq_open (h := h) hb
      unfold eqGuard
      simp only [Bool.not_true, Bool.false_eq_true, if_false, semR_bind', semR_program, hg, Bool.not_false, if_true, semR_pure]
      unfold binOp
      simp only [semR_bind']
      exact he _ (HK _ H)
    · rename_i b hb
      obtain ⟨hg, he⟩ := aggEq_open (h := h) hb
      unfold eqGuard
      simp only [Bool.not_true, Bool.false_eq_true, if_false, semR_bind', semR_program, hg, Bool.not_false, if_true, semR_pure]
      unfold binOp
      simp only [semR_bind']
      exact he _ (HK _ H)
    · exact H.elim
  · rename_i p q
    refine eqGuard_sound (by simp) (by simp) _ ?_
    split at H
    · rename_i e ht
      split at H
      · unfold binOp; simp only [semR_bind']; exact equal_ptr ht _ (ptrW_mono H fun b hb => HK _ hb)
      · unfold binOp; simp only [semR_bind']; exact equal_ptr ht _ (ptrW_mono H fun b hb => HK _ hb)
      · exact H.elim
    · exact H.elim
  · rename_i h1 h2 h3 h4
    split at H
    · rename_i d ht
      split at H
      · rename_i hc
        simp only [Bool.and_eq_true] at hc
        obtain ⟨⟨c1, c2⟩, c3⟩ := hc
        refine eqGuard_sound (by rintro ⟨rfl, rfl⟩; simp [isNilLit] at c3) (by rintro c d' ⟨rfl, rfl⟩; simp [isNilLit] at c3) _ ?_
        split at H
        · rename_i b hb
          have h5 := equal_nil (P := P) (h := h) ht c1 c2 c3 hb (fun b h' => K' (.bool b) h') (HK _ H)
          unfold binOp
          cases d <;> cases x <;> simp only [kindOk, Bool.false_eq_true] at c1 <;> cases y <;> simp only [kindOk, Bool.false_eq_true] at c2 <;> simp only [semR_bind', semR_pure] <;> exact h5
        · rename_i b hb
          have h5 := equal_nil (P := P) (h := h) ht c1 c2 c3 hb (fun b h' => K' (.bool (!b)) h') (HK _ H)
          unfold binOp
          cases d <;> cases x <;> simp only [kindOk, Bool.false_eq_true] at c1 <;> cases y <;> simp only [kindOk, Bool.false_eq_true] at c2 <;> simp only [semR_bind', semR_pure] <;> exact h5
        · exact H.elim
      · exact H.elim
    · exact H.elim

def unW (op : UnOp) (x : Value) (K : Value → Prop) : Prop :=
  match op, x with
  | .not, .bool b => K (.bool (!b))
  | .neg, .int k n => K (.int k (k.wrap (0 - n)))
  | .xor, .int k n => K (.int k (iXor k (if k.signed then -1 else k.max) n))
  | .neg, .float k b => K (.float k (Op.negFloat k b))
  | _, _ => False
theorem unW_sound {op : UnOp} {x : Value} {K : Value → Prop} {K' : Value → Hp → Prop} (H : unW op x K) (HK : ∀ v, K v → K' v h) : semR P (Op.unary op x) h K' := by
  unfold unW at H
  split at H <;> first | exact HK _ H | exact H.elim

/-! ### addresses -/
def adW (p : Value) (K : Addr → Prop) : Prop := match p with | .pointer (some a) => K a | _ => False
theorem adW_some {p : Value} {K : Addr → Prop} (h : adW p K) : ∃ a, p = .pointer (some a) ∧ K a := by
  unfold adW at h
  split at h
  · exact ⟨_, rfl, h⟩
  · exact h.elim
def nilW (p : Option Addr) (K : Addr → Prop) : Prop := ∃ a, p = some a ∧ K a
@[simp] theorem nilW_some (a : Addr) (K : Addr → Prop) : nilW (some a) K ↔ K a := by simp [nilW]
def nilV (x : Value) (K : Value → Prop) : Prop :=
  match x with
  | .pointer p => nilW p fun a => K (.pointer (some a))
  | .func (.func i) f c => K (.func (.func i) f c)
  | _ => False
def fldW (P : Program) (t : TypeId) (a : Addr) (f : Nat) (K : Value → Prop) : Prop :=
  match P.underlying t with
  | some (.struct fs) => match fs[f]? with
    | some fd => match szOf P fd.type with
      | some (_ + 1) => K (.pointer (some (a.add fd.offset)))
      | _ => False
    | none => False
  | _ => False
theorem fldW_sound {t : TypeId} {a : Addr} {f : Nat} {K : Value → Prop} {K' : Value → Hp → Prop} (H : fldW P t a f K) (HK : ∀ v, K v → K' v h) :
    semR P (Instr.fieldAt t (.pointer (some a)) f) h K' := by
  unfold fldW at H
  split at H
  · rename_i fs ht
    split at H
    · rename_i fd hf
      split at H
      · rename_i n hn
        unfold Instr.fieldAt
        simp only [semR_bind', semR_underlying]
        refine ⟨_, ht, ?_⟩
        simp only [hf, semR_bind', Instr.sureAddr, semR_pure, fieldPlace, semR_sizeOf]
        exact ⟨n + 1, hn, by simp only [Nat.add_one_ne_zero, if_false]; exact HK _ H⟩
      · exact H.elim
    · exact H.elim
  · exact H.elim
def ixOk (i : Int) (n : Nat) (p : Prop) : Prop := 0 ≤ i ∧ i < n ∧ p
def ixW (P : Program) (t : TypeId) (x i : Value) (K : Value → Prop) : Prop :=
  match i with
  | .int _ i => match P.underlying t, x with
    | some (.array len e), .pointer (some a) => match szOf P e with
      | some s => ixOk i len (K (.pointer (some (a.add (i.toNat * s)))))
      | none => False
    | some (.slice e), .slice b n _ => match szOf P e with
      | some s => nilW b fun a => ixOk i n (K (.pointer (some (a.add (i.toNat * s)))))
      | none => False
    | _, _ => False
  | _ => False
theorem ixW_sound {t : TypeId} {x i : Value} {K : Value → Prop} {K' : Value → Hp → Prop} (H : ixW P t x i K) (HK : ∀ v, K v → K' v h) : semR P (Instr.indexAt t x i) h K' := by
  unfold ixW at H
  split at H
  · rename_i k i
    unfold Instr.indexAt
    simp only [asIntOf, semR_bind', semR_pure, semR_underlying]
    split at H
    · rename_i len e a ht
      split at H
      · rename_i s hs
        refine ⟨_, ht, ?_⟩
        simp only [semR_bind', semR_pure, Instr.sureAddr, semR_underlying]
        refine ⟨_, ht, ?_⟩
        obtain ⟨h1, h2, h3⟩ := H
        simp only [h1, h2, true_and, if_true, semR_bind', semR_sizeOf]
        exact ⟨s, hs, HK _ h3⟩
      · exact H.elim
    · rename_i e b n c ht
      split at H
      · rename_i s hs
        refine ⟨_, ht, ?_⟩
        simp only [semR_bind', semR_pure, Instr.sureAddr, semR_underlying]
        refine ⟨_, ht, ?_⟩
        obtain ⟨a, rfl, h1, h2, h3⟩ := H
        simp only [h1, h2, true_and, if_true, semR_bind', semR_sizeOf]
        exact ⟨s, hs, HK _ h3⟩
      · exact H.elim
    · exact H.elim
  · exact H.elim

/-! ### parts of values -/
def partV (P : Program) (t : TypeId) (cs : Array Value) (off : Nat) : Option Value :=
  match P.underlying t with
  | some d => match isAggB d with
    | true => match szOf P t with | some n => some (.agg (cs.extract off (off + n))) | none => none
    | false => cs[off]?
  | none => none
theorem part_sound {t : TypeId} {cs : Array Value} {off : Nat} {v : Value} {K' : Value → Hp → Prop} (H : partV P t cs off = some v) (HK : K' v h) : semR P (part t cs off) h K' := by
  unfold partV at H
  split at H
  · rename_i d ht
    unfold part
    simp only [semR_bind', semR_isAgg]
    refine ⟨d, ht, ?_⟩
    split at H
    · rename_i hd
      split at H
      · rename_i n hn
        simp only [hd, if_true, semR_bind', semR_sizeOf]
        exact ⟨n, hn, by simp at H; rw [← H] at HK; exact HK⟩
      · cases H
    · rename_i hd
      simp only [hd, Bool.false_eq_true, if_false, H]
      exact HK
  · cases H
def fieldW (P : Program) (t : TypeId) (x : Value) (f : Nat) (K : Value → Prop) : Prop :=
  match P.underlying t, x with
  | some (.struct fs), .agg cs => match fs[f]? with
    | some fd => e1 (partV P fd.type cs fd.offset) K
    | none => False
  | _, _ => False
theorem fieldW_sound {t : TypeId} {x : Value} {f : Nat} {K : Value → Prop} {K' : Value → Hp → Prop} (H : fieldW P t x f K) (HK : ∀ v, K v → K' v h) : semR P (Instr.field t x f) h K' := by
  unfold fieldW at H
  split at H
  · rename_i fs cs ht
    split at H
    · rename_i fd hf
      obtain ⟨v, h1, h2⟩ := e1_some H
      unfold Instr.field
      simp only [semR_bind', semR_underlying]
      refine ⟨_, ht, ?_⟩
      simp only [hf, asAgg, semR_bind', semR_pure]
      exact part_sound h1 (HK _ h2)
    · exact H.elim
  · exact H.elim
def strIx (s : ByteArray) (i : Int) : Int := ((s.data.toList.getD i.toNat 0).toNat : Int)
def indexW (P : Program) (t : TypeId) (x i : Value) (K : Value → Prop) : Prop :=
  match i with
  | .int _ i => match P.underlying t, x with
    | some (.array len e), .agg cs => match lay P e, szOf P e with
      | some (.c ct), some s => ixOk i len (exC ct fun v => cs[i.toNat * s]? = some v ∧ K v)
      | _, _ => False
    | some .string, .string s => ixOk i s.size (K (.int .u8 (strIx s i)))
    | _, _ => False
  | _ => False
theorem indexW_sound {t : TypeId} {x i : Value} {K : Value → Prop} {K' : Value → Hp → Prop} (H : indexW P t x i K) (HK : ∀ v, K v → K' v h) : semR P (Instr.index t x i) h K' := by
  unfold indexW at H
  split at H
  · rename_i k i
    unfold Instr.index
    simp only [asIntOf, semR_bind', semR_pure, semR_underlying]
    split at H
    · rename_i len e cs ht
      split at H
      · rename_i ct s hl hs
        obtain ⟨h1, h2, h3⟩ := H
        obtain ⟨v, h4, h5⟩ := exC_ex h3
        obtain ⟨d, z, n, g1, g2, g3, g4, g5, g6⟩ := lay_spec hl
        refine ⟨_, ht, ?_⟩
        simp only [h1, h2, true_and, if_true, semR_bind', semR_sizeOf]
        refine ⟨s, hs, part_sound (v := v) ?_ (HK _ h5)⟩
        unfold partV
        have hz : isAggV z = false := by cases z <;> simp [tyOf] at g6 <;> rfl
        simp only [g1, g4, hz]
        exact h4
      · exact H.elim
    · rename_i s ht
      obtain ⟨h1, h2, h3⟩ := H
      refine ⟨_, ht, ?_⟩
      have hlt : i.toNat < s.size := by omega
      have e : (if 0 ≤ i then s[i.toNat]? else none) = some (s.data.toList.getD i.toNat 0) := by
        rw [if_pos h1, getElem?_pos s i.toNat hlt]
        have : i.toNat < s.data.toList.length := by simpa using hlt
        simp [List.getD_eq_getElem?_getD, List.getElem?_eq_getElem this]
        rfl
      simp only [e]
      exact HK _ h3
    · exact H.elim
  · exact H.elim
end
end Go.Lift
namespace Go.Lift
section
variable {P : Program} {h : Hp}

/-! ### slicing -/
def slAd (a : Option Addr) (l m sz : Nat) : Option Addr := if m = l then a else a.map (·.add (l * sz))
def optI : Option Value → Option (Option Int)
  | none => some none
  | some (.int _ i) => some (some i)
  | some _ => none
/-- lo and hi of a slice expression over n elements, c of room. -/
def bdW (n c : Nat) (lo hi : Option Int) (K : Nat → Nat → Prop) : Prop :=
  match lo, hi with
  | none, none => K 0 n
  | some l, none => (0 ≤ l ∧ l ≤ n) ∧ K l.toNat n
  | none, some u => (0 ≤ u ∧ u ≤ c) ∧ K 0 u.toNat
  | some l, some u => (0 ≤ l ∧ l ≤ u ∧ u ≤ c) ∧ K l.toNat u.toNat
def slW (P : Program) (t : TypeId) (x : Value) (lo hi : Option Value) (K : Value → Prop) : Prop :=
  match optI lo, optI hi with
  | some lo, some hi =>
    match P.underlying t, x with
    | some .string, .string s => bdW s.size s.size lo hi fun l u => K (.string (s.extract l u))
    | some (.slice e), .slice a n c => match szOf P e with
      | some sz => bdW n c lo hi fun l u => K (.slice (slAd a l c sz) (u - l) (c - l))
      | none => False
    | some (.array n e), .pointer (some a) => match szOf P e with
      | some sz => bdW n n lo hi fun l u => K (.slice (slAd (some a) l n sz) (u - l) (n - l))
      | none => False
    | _, _ => False
  | _, _ => False

theorem optI_spec {o : Option Value} {i : Option Int} (h : optI o = some i) : (o = none ∧ i = none) ∨ ∃ k x, o = some (.int k x) ∧ i = some x := by
  unfold optI at h
  split at h
  · simp at h; exact .inl ⟨rfl, h.symm⟩
  · simp at h; exact .inr ⟨_, _, rfl, h.symm⟩
  · cases h
theorem sliceBounds_sound {isS : Bool} {n c : Nat} {lo hi : Option Value} {l u : Option Int} (hl : optI lo = some l) (hu : optI hi = some u) {K : Nat → Nat → Prop} {K' : Nat × Nat × Nat → Hp → Prop}
    (H : bdW n c l u K) (HK : ∀ a b, K a b → K' (a, b, c) h) : semR P (Instr.sliceBounds isS n c lo hi none) h K' := by
  unfold Instr.sliceBounds
  rcases optI_spec hl with ⟨rfl, rfl⟩ | ⟨k1, x, rfl, rfl⟩ <;> rcases optI_spec hu with ⟨rfl, rfl⟩ | ⟨k2, y, rfl, rfl⟩ <;> simp only [bdW] at H <;>
    simp only [semR_bind', semR_pure, Instr.sliceBound, asIntOf]
  · exact HK _ _ H
  · rw [if_pos H.1]
    simp only [semR_pure]
    exact HK _ _ H.2
  · rw [if_pos H.1]
    simp only [semR_pure]
    exact HK _ _ H.2
  · obtain ⟨⟨h1, h2, h3⟩, h4⟩ := H
    rw [if_pos ⟨by omega, h3⟩]
    simp only [semR_pure]
    rw [if_pos ⟨h1, by omega⟩]
    exact HK _ _ h4
theorem slW_sound {t : TypeId} {x : Value} {lo hi : Option Value} {K : Value → Prop} {K' : Value → Hp → Prop} (H : slW P t x lo hi K) (HK : ∀ v, K v → K' v h) :
    semR P (Instr.sliceAt t x lo hi none) h K' := by
  unfold slW at H
  split at H
  · rename_i l u hl hu
    unfold Instr.sliceAt
    simp only [semR_bind', semR_underlying]
    split at H
    · rename_i s ht
      refine ⟨_, ht, ?_⟩
      simp only [Instr.slice, semR_bind', semR_underlying]
      refine ⟨_, ht, ?_⟩
      simp only [Option.isSome_none, Bool.false_eq_true, if_false, semR_bind']
      refine sliceBounds_sound hl hu H fun a b hab => ?_
      exact HK _ hab
    · rename_i e a n c ht
      split at H
      · rename_i sz hs
        refine ⟨_, ht, ?_⟩
        simp only [Instr.slice, semR_bind', semR_underlying]
        refine ⟨_, ht, ?_⟩
        simp only [semR_bind']
        refine sliceBounds_sound hl hu H fun x y hab => ?_
        simp only [semR_sizeOf]
        exact ⟨sz, hs, HK _ hab⟩
      · exact H.elim
    · rename_i n e a ht
      split at H
      · rename_i sz hs
        refine ⟨_, ht, ?_⟩
        simp only [semR_bind', Instr.sureAddr, semR_pure]
        refine sliceBounds_sound hl hu H fun x y hab => ?_
        simp only [semR_sizeOf]
        refine ⟨sz, hs, ?_⟩
        have := HK _ hab
        unfold slAd at this
        split <;> simp_all
        
      · exact H.elim
    · exact H.elim
  · exact H.elim

/-! ### make -/
def mkCells (z : Array Value) (n : Nat) : Array Value := (Array.range n).map (z[· % z.size]!)
def mkOk (l c : Int) (bytes : Nat) (p : Prop) : Prop := (0 ≤ l ∧ l ≤ c ∧ c * bytes ≤ 2 ^ 48 ∧ c < 2 ^ 63) ∧ p
def mkW (P : Program) (t : TypeId) (l c : Value) (h : Hp) (K : Value → Hp → Prop) : Prop :=
  match P.underlying t, l, c with
  | some (.slice e), .int _ l, .int _ c => match P.info? e, zeroOf P e with
    | some i, some _ => mkOk l c i.bytes (K (.slice (some ⟨h.size, 0, none⟩) l.toNat c.toNat) (h.push (.cells (mkCells (zc P e) (c.toNat * i.size)) e)))
    | _, _ => False
  | _, _, _ => False
theorem wrap_i64 {x : Int} (h1 : -2 ^ 63 ≤ x) (h2 : x < 2 ^ 63) : IntKind.i64.wrap x = x := by
  unfold IntKind.wrap IntKind.bits IntKind.signed
  simp only [Bool.true_and, decide_eq_true_eq]
  split <;> omega
theorem mkW_sound {t : TypeId} {l c : Value} {K : Value → Hp → Prop} (H : mkW P t l c h K) : semW P (Instr.makeSlice t l c) h K := by
  unfold mkW at H
  split at H
  · rename_i e k1 l k2 c ht
    split at H
    · rename_i i z hi hz
      obtain ⟨⟨h1, h2, h3, h4⟩, hK⟩ := H
      unfold Instr.makeSlice
      simp only [semW_bind', semW_underlying]
      refine ⟨_, ht, ?_⟩
      simp only [asInt, asIntOf, semW_bind', semW_pure, semW_typeInfo]
      refine ⟨i, hi, ?_⟩
      rw [wrap_i64 (by omega) (by omega), wrap_i64 (by omega) (by omega)]
      have hc : (decide (c < 0) || decide ((i.bytes : Int) * c > 2 ^ 48)) = false := by
        rw [Int.mul_comm] at h3
        simp only [Bool.or_eq_false_iff, decide_eq_false_iff_not]
        exact ⟨by omega, by omega⟩
      rw [if_neg (by simp only [hc]; simp; omega)]
      simp only [semW_bind', semW_askRoom, semW_sizeOf]
      refine ⟨i.size, by simp [hi], ?_⟩
      by_cases hn : c.toNat * i.size = 0
      · rw [if_pos hn]
        simp only [semW_pure, semW_newRow, semW_bind', hn]
        have e1 : ∀ f : Nat → Value, (Array.range 0).map f = #[] := fun f => by simp [Array.range]
        rw [hn, mkCells, e1] at hK
        rw [e1]
        exact hK
      · rw [if_neg hn]
        simp only [semW_pure, semW_newRow, semW_bind', semW_zeroValue]
        refine ⟨z, hz, ?_⟩
        simp only [zc, hz] at hK
        exact hK
    · exact H.elim
  · exact H.elim

/-! ### the cells of a slice, append, copy -/
def cellsAt (h : Hp) (a : Option Addr) (n : Nat) (cs : List Value) : Prop :=
  match a with
  | none => cs = []
  | some a => cs.length = n ∧ ∀ i, i < n → rd h (a.add i) = cs[i]?
theorem loadCellsFrom_cells (a : Addr) (n : Nat) : ∀ (i : Nat) (cs : List Value) (acc : Array Value) (K' : Array Value → Hp → Prop),
    cs.length = n → (∀ j, j < n → rd h (a.add (i + j)) = cs[j]?) → K' (acc ++ cs.toArray) h → semW P (loadCellsFrom a i n acc) h K' := by
  induction n with
  | zero => intro i cs acc K' hl _ H; have : cs = [] := by simpa using hl
            subst this; simp at H; exact H
  | succ n ih =>
    intro i cs acc K' hl hr H
    cases cs with
    | nil => simp at hl
    | cons c cs =>
      simp only [loadCellsFrom, semW_bind']
      refine ⟨c, by have := hr 0 (by omega); simpa using this, ?_⟩
      refine ih (i + 1) cs (acc.push c) K' (by simpa using hl) (fun j hj => ?_) (by simpa using H)
      have := hr (j + 1) (by omega)
      rw [show i + 1 + j = i + (j + 1) by omega]
      simpa using this
theorem firstCells_sound {sz n : Nat} {a : Option Addr} {c : Nat} {m : Nat} {cs : List Value} (H : cellsAt h a (m * sz) cs) (K' : Array Value → Hp → Prop) (HK : K' cs.toArray h) :
    semW P (Builtin.firstCells sz m (.slice a n c)) h K' := by
  cases a with
  | none => simp only [cellsAt] at H; subst H; exact HK
  | some a =>
    obtain ⟨h1, h2⟩ := H
    simp only [Builtin.firstCells, loadCells]
    exact loadCellsFrom_cells a _ 0 cs #[] K' h1 (fun j hj => by simpa using h2 j hj) (by simpa using HK)

inductive AppR (P : Program) (e : TypeId) (sz : Nat) (h : Hp) (s : Sl) (m : Nat) (new : List Value) : Sl → Hp → Prop
  | room (a : Addr) : s.n + m ≤ s.c → s.a = some a → AppR P e sz h s m new ⟨s.a, s.n + m, s.c⟩ (wrs h (a.add (s.n * sz)) 0 new)
  | none : s.n + m ≤ s.c → s.a = none → AppR P e sz h s m new ⟨s.a, s.n + m, s.c⟩ h
  | grow (old : List Value) (cap : Nat) : s.c < s.n + m → cellsAt h s.a (s.n * sz) old → s.n + m ≤ cap →
      AppR P e sz h s m new ⟨some ⟨h.size, 0, .none⟩, s.n + m, cap⟩ (h.push (.cells ((old ++ new).toArray ++ Builtin.zeroCells (zc P e) (cap - (s.n + m))) e))
/-- What append asks: few enough elements; what is there can be read; where there is room it may be written. -/
def appOk (bytes sz : Nat) (h : Hp) (s : Sl) (m : Nat) (new : List Value) : Prop :=
  s.n + m ≤ 2 ^ 47 ∧ (s.n + m) * bytes ≤ 2 ^ 47 ∧ new.length = m * sz ∧ (∀ v ∈ new, oneCell v = true) ∧
    (s.c < s.n + m → ∃ old, cellsAt h s.a (s.n * sz) old) ∧ (s.n + m ≤ s.c → ∀ a, s.a = some a → stOk h (a.add (s.n * sz)) (m * sz))
def appS (P : Program) (e : TypeId) (bytes sz : Nat) (h : Hp) (s : Sl) (m : Nat) (new : List Value) (K : Sl → Hp → Prop) : Prop :=
  appOk bytes sz h s m new ∧ ∀ s' h', AppR P e sz h s m new s' h' → K s' h'
def strCells (s : ByteArray) : List Value := s.data.toList.map fun b => .int .u8 b.toNat
def appW (P : Program) (t : TypeId) (s x : Value) (h : Hp) (K : Value → Hp → Prop) : Prop :=
  match P.underlying t, s with
  | some (.slice e), .slice a n c => match P.info? e, zeroOf P e with
    | some i, some _ => match x with
      | .slice b m _ => ∃ new, cellsAt h b (m * i.size) new ∧ appS P e i.bytes i.size h ⟨a, n, c⟩ m new fun s' h' => K (.slice s'.a s'.n s'.c) h'
      | .string u => i.size = 1 ∧ appS P e i.bytes i.size h ⟨a, n, c⟩ u.size (strCells u) fun s' h' => K (.slice s'.a s'.n s'.c) h'
      | _ => False
    | _, _ => False
  | _, _ => False

theorem nextcap_le {need c : Nat} (h : c < need) : Builtin.nextslicecap need c ≤ 2 * need := by
  have hg : ∀ (r c : Nat), c ≤ 2 * need → 256 ≤ need → Builtin.growBy need r c ≤ 2 * need := by
    intro r
    induction r with
    | zero => intro c hc _; exact hc
    | succ r ih =>
      intro c hc hn
      simp only [Builtin.growBy]
      split
      · exact hc
      · exact ih _ (by omega) hn
  unfold Builtin.nextslicecap
  split
  · omega
  · split
    · omega
    · exact hg 4 c (by omega) (by omega)
theorem appendCap_cut (need c : Nat) (e : TypeId) (t : Nat) : need ≤ (Question.appendCap need c e).cut t := by
  simp [Question.cut]
theorem append_sound {t e : TypeId} {ty2 : TypeId} {i : TypeInfo} {z : Value} (ht : P.underlying t = some (.slice e)) (hi : P.info? e = some i) (hz : zeroOf P e = some z)
    (h2 : ∃ d, P.underlying ty2 = some d ∧ ∀ k, d ≠ .int k) {s : Sl} {x : Value} {m : Nat} {new : List Value}
    (hlen : ∀ (K : Nat → Hp → Prop), K m h → semW P (Builtin.lenOf x) h K)
    (hnew : ∀ (K : Array Value → Hp → Prop), K new.toArray h → semW P (Builtin.firstCells i.size m x) h K) {ty : TypeId} {K : Value → Hp → Prop}
    (H : appS P e i.bytes i.size h s m new fun s' h' => K (.slice s'.a s'.n s'.c) h') :
    semW P (Builtin.append_ #[t, ty2] ty #[.slice s.a s.n s.c, x]) h K := by
  obtain ⟨⟨b1, b2, b3, b4, b5, b6⟩, hK⟩ := H
  obtain ⟨d, hd, hdi⟩ := h2
  have hsz : szOf P e = some i.size := by simp [szOf, hi]
  unfold Builtin.append_
  simp only [List.getElem?_toArray, List.getElem?_cons_zero, List.getElem?_cons_succ, semW_bind', semW_underlying]
  refine ⟨_, ht, ?_⟩
  simp only [semW_bind', semW_sizeOf]
  refine ⟨i.size, hsz, ?_⟩
  simp only [semW_bind', semW_underlying]
  refine ⟨d, hd, ?_⟩
  have hz0 : (match d with | .int _ => true | _ => false) = false := by
    cases d <;> first | rfl | exact absurd rfl (hdi _)
  simp only [semW_pure, hz0, Bool.false_eq_true, if_false]
  rw [semW_bind']
  refine hlen _ ?_
  by_cases hroom : s.n + m ≤ s.c
  · rw [if_pos hroom]
    simp only [Bool.not_false, if_true, semW_bind']
    refine hnew _ ?_
    cases hsa : s.a with
    | none =>
      simp only [semW_pure]
      have := hK _ _ (.none hroom hsa)
      rw [hsa] at this
      exact this
    | some a =>
      simp only [semW_bind']
      refine storeCells_sound _ _ 0 h _ (by simpa using b4) (fun j _ hj => ?_) ?_
      · have := b6 hroom a hsa j (by simp at hj; omega)
        exact this
      · simp only [semW_pure]
        have := hK _ _ (.room a hroom hsa)
        rw [hsa] at this
        simpa using this
  · rw [if_neg hroom]
    have hgt : s.c < s.n + m := by omega
    obtain ⟨old, hold⟩ := b5 hgt
    simp only [semW_bind', semW_typeInfo]
    refine ⟨i, hi, ?_⟩
    rw [if_neg (by
      rintro ⟨h1, _⟩
      have : IntKind.i64.max = 9223372036854775807 := by rfl
      rw [this] at h1
      have h3 : (2 : Nat) ^ 47 = 140737488355328 := by decide
      omega)]
    simp only [semW_bind', semW_typeInfo, semW_pure]
    refine ⟨i, hi, ?_⟩
    have hcap : ¬ (Builtin.nextslicecap (s.n + m) s.c * i.bytes > 2 ^ 48) := by
      have h1 := nextcap_le hgt
      have h2 : Builtin.nextslicecap (s.n + m) s.c * i.bytes ≤ 2 * (s.n + m) * i.bytes := Nat.mul_le_mul_right _ h1
      have h3 : 2 * (s.n + m) * i.bytes = 2 * ((s.n + m) * i.bytes) := by rw [Nat.mul_assoc]
      have h4 : (2 : Nat) ^ 48 = 2 * 2 ^ 47 := by rfl
      omega
    rw [if_neg hcap]
    simp only [semW_bind', semW_pure, semW_choose]
    refine ⟨fun hf => by simp [Question.forced] at hf, fun _ tt => ?_⟩
    have hle := appendCap_cut (s.n + m) s.c e tt
    generalize (Question.appendCap (s.n + m) s.c e).cut tt = cap at hle
    simp only [semW_typeInfo]
    refine ⟨i, hi, ?_⟩
    simp only [semW_askRoom]
    refine firstCells_sound hold _ ?_
    simp only [Bool.not_false, if_true]
    refine hnew _ ?_
    simp only [semW_zeroValue]
    refine ⟨z, hz, ?_⟩
    simp only [semW_newRow, semW_pure]
    have := hK _ _ (.grow old cap hgt hold hle)
    simp only [zc, hz] at this
    simpa using this
def appZW (P : Program) (t : TypeId) (s x : Value) (h : Hp) (K : Value → Hp → Prop) : Prop :=
  match P.underlying t, s, x with
  | some (.slice e), .slice a n c, .int _ l => match P.info? e, zeroOf P e with
    | some i, some _ => (0 ≤ l ∧ l < 2 ^ 63 ∧ l * i.bytes ≤ 2 ^ 47) ∧ appS P e i.bytes i.size h ⟨a, n, c⟩ l.toNat (Builtin.zeroCells (zc P e) l.toNat).toList fun s' h' => K (.slice s'.a s'.n s'.c) h'
    | _, _ => False
  | _, _, _ => False
theorem appendZ_sound {t ty2 : TypeId} {s x : Value} {h : Hp} {k2 : IntKind} (h2 : P.underlying ty2 = some (.int k2)) {ty : TypeId} {K : Value → Hp → Prop} (H : appZW P t s x h K) :
    semW P (Builtin.append_ #[t, ty2] ty #[s, x]) h K := by
  unfold appZW at H
  split at H
  · rename_i e a n c k l ht
    split at H
    · rename_i i z hi hz
      obtain ⟨⟨l1, l2, l3⟩, ⟨b1, b2, b3, b4, b5, b6⟩, hK⟩ := H
      have hsz : szOf P e = some i.size := by simp [szOf, hi]
      have hw : IntKind.i64.wrap l = l := wrap_i64 (by omega) l2
      generalize hm : l.toNat = m at *
      generalize hnew : (Builtin.zeroCells (zc P e) m).toList = new at *
      have hzc : zc P e = z.cells := by simp only [zc, hz]
      unfold Builtin.append_
      simp only [List.getElem?_toArray, List.getElem?_cons_zero, List.getElem?_cons_succ, semW_bind', semW_underlying]
      refine ⟨_, ht, ?_⟩
      simp only [semW_bind', semW_sizeOf]
      refine ⟨i.size, hsz, ?_⟩
      simp only [semW_bind', semW_underlying]
      refine ⟨_, h2, ?_⟩
      have hbig : ¬ (l * (i.bytes : Int) > 2 ^ 48) := by
        have : (2 : Int) ^ 48 = 2 * 2 ^ 47 := by decide
        have : (0 : Int) < 2 ^ 47 := by decide
        omega
      have hneg : ¬ l < 0 := by omega
      have hnew2 : ∀ (K : Array Value → Hp → Prop) (h' : Hp), K new.toArray h' → semW P (if m * i.size = 0 then pure #[] else do pure (Builtin.zeroCells (← zeroValue e).cells m) : Sem (Array Value)) h' K := by
        intro K h' hk
        split
        · rename_i h0
          have : new = [] := List.eq_nil_of_length_eq_zero (by rw [b3]; exact h0)
          rw [this] at hk
          exact hk
        · simp only [semW_bind', semW_zeroValue]
          refine ⟨z, hz, ?_⟩
          simp only [semW_pure]
          rw [← hnew, hzc] at hk
          simpa using hk
      simp only [semW_pure, if_true, Builtin.lenOf, asInt, asIntOf, semW_bind', hw, hneg, if_false, semW_typeInfo]
      refine ⟨i, hi, ?_⟩
      rw [if_neg hbig]
      simp only [semW_bind', semW_pure, hm, Bool.not_true, Bool.false_eq_true, if_false]
      by_cases hroom : n + m ≤ c
      · rw [if_pos hroom, semW_bind']
        refine hnew2 _ _ ?_
        cases hsa : a with
        | none =>
          simp only [semW_pure]
          have := hK _ _ (.none hroom hsa)
          rw [hsa] at this
          exact this
        | some a =>
          simp only [semW_bind']
          subst hsa
          refine storeCells_sound _ _ 0 h _ (by simpa using b4) (fun j _ hj => ?_) ?_
          · exact b6 hroom a rfl j (by simp at hj; omega)
          · simp only [semW_pure]
            have := hK _ _ (.room a hroom rfl)
            simpa using this
      · rw [if_neg hroom]
        have hgt : c < n + m := by omega
        obtain ⟨old, hold⟩ := b5 hgt
        simp only [semW_bind', semW_typeInfo]
        refine ⟨i, hi, ?_⟩
        rw [if_neg (by
          rintro ⟨h1, _⟩
          have : IntKind.i64.max = 9223372036854775807 := by rfl
          rw [this] at h1
          have h3 : (2 : Nat) ^ 47 = 140737488355328 := by decide
          simp only at b1
          omega)]
        simp only [semW_bind', semW_typeInfo, semW_pure]
        refine ⟨i, hi, ?_⟩
        have hcap : ¬ (Builtin.nextslicecap (n + m) c * i.bytes > 2 ^ 48) := by
          have h1 := nextcap_le hgt
          have h2 : Builtin.nextslicecap (n + m) c * i.bytes ≤ 2 * (n + m) * i.bytes := Nat.mul_le_mul_right _ h1
          have h3 : 2 * (n + m) * i.bytes = 2 * ((n + m) * i.bytes) := by rw [Nat.mul_assoc]
          have h4 : (2 : Nat) ^ 48 = 2 * 2 ^ 47 := by rfl
          simp only at b2
          omega
        rw [if_neg hcap]
        simp only [semW_bind', semW_pure, semW_choose]
        refine ⟨fun hf => by simp [Question.forced] at hf, fun _ tt => ?_⟩
        have hle := appendCap_cut (n + m) c e tt
        generalize (Question.appendCap (n + m) c e).cut tt = cap at hle
        simp only [semW_typeInfo]
        refine ⟨i, hi, ?_⟩
        simp only [semW_askRoom]
        refine firstCells_sound hold _ ?_
        refine hnew2 _ _ ?_
        simp only [semW_zeroValue]
        refine ⟨z, hz, ?_⟩
        simp only [semW_newRow, semW_pure]
        have := hK _ _ (.grow old cap hgt hold hle)
        simp only [zc, hz] at this
        simpa using this
    · exact H.elim
  · exact H.elim
/-- A slice expression with three indexes. -/
def sl3W (P : Program) (t : TypeId) (x l u m : Value) (K : Value → Prop) : Prop :=
  match P.underlying t, x, l, u, m with
  | some (.slice e), .slice a _ c, .int _ l, .int _ u, .int _ m => match szOf P e with
    | some sz => (0 ≤ l ∧ l ≤ u ∧ u ≤ m ∧ m ≤ (c : Nat)) ∧ K (.slice (slAd a l.toNat m.toNat sz) (u.toNat - l.toNat) (m.toNat - l.toNat))
    | none => False
  | _, _, _, _, _ => False
theorem sl3W_sound {t : TypeId} {x l u m : Value} {h : Hp} {K : Value → Prop} {K' : Value → Hp → Prop} (H : sl3W P t x l u m K) (HK : ∀ v, K v → K' v h) : semR P (Instr.sliceAt t x (some l) (some u) (some m)) h K' := by
  unfold sl3W at H
  split at H
  · rename_i e a n c k1 l k2 u k3 m ht
    split at H
    · rename_i sz hs
      obtain ⟨⟨h1, h2, h3, h4⟩, H⟩ := H
      unfold Instr.sliceAt
      simp only [semR_bind', semR_underlying]
      refine ⟨_, ht, ?_⟩
      simp only [Instr.slice, semR_bind', semR_underlying]
      refine ⟨_, ht, ?_⟩
      simp only [Instr.sliceBounds, semR_bind', semR_pure, Instr.sliceBound, asIntOf]
      rw [if_pos ⟨by omega, h4⟩]
      simp only [semR_pure]
      rw [if_pos ⟨by omega, by omega⟩]
      simp only [semR_pure]
      rw [if_pos ⟨h1, by omega⟩]
      simp only [semR_pure, semR_sizeOf]
      exact ⟨sz, hs, HK _ H⟩
    · exact H.elim
  · exact H.elim
end
end Go.Lift

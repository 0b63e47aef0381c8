/- One operation: the quiet ones (they yield a value and leave the heap) and the loud ones, gathered; soundness. -/
import Derived.Test.YtgmbhlfecbpclacGreatDoorLvF
set_option linter.unusedSimpArgs false
set_option linter.unusedVariables false
namespace Go.Lift

def agrees (r : Option Value) (v : Value) : Prop := ∀ u, r = some u → u = v
theorem agrees_some (v : Value) : agrees (some v) v := fun _ h => by simpa using h.symm
def eO (ρ : Fr) (x : Option Operand) (K : Option Value → Prop) : Prop :=
  match x with
  | none => K none
  | some x => e1 (ev ρ x) fun v => K (some v)
def eP (ρ : Fr) (ps : List (Nat × Operand)) (K : List (Nat × Value) → Prop) : Prop := match evP ρ ps with | some vs => K vs | none => False
def pickW (c a b : Option Value) (K : Option Value → Prop) : Prop :=
  match c with
  | some (.bool t) => match a, b with
    | some (.bool x), some (.bool y) => K (some (.bool (cond t x y)))
    | a, b => match t with | true => K a | false => K b
  | _ => False
def extV (x : Value) (i : Nat) (K : Value → Prop) : Prop :=
  match x with
  | .tuple vs => e1 vs[i]? K
  | _ => False
def onlyInt : Value → Bool | .int _ _ => true | _ => false

def isQuiet (P : Program) (o : Op) : Bool :=
  match o with
  | .move _ | .assign _ | .pick _ _ _ | .build _ _ | .load _ _ | .nilCheck _ | .binOp _ _ _ _ _ | .unOp _ _ _ | .makeFunc _ _ _ | .slice _ _ _ _ none | .fieldAddr _ _ _ | .field _ _ _
  | .indexAddr _ _ _ | .index _ _ _ | .lookup _ _ _ _ | .extract _ _ => true
  | .convert s d _ => match P.underlying s, P.underlying d with | some .string, some (.slice _) => false | _, _ => true
  | .call { callee := .builtin .len, .. } | .call { callee := .builtin .cap, .. } | .call { callee := .builtin .min, .. } | .call { callee := .builtin .max, .. } => true
  | _ => false

def quB (P : Program) (b : Builtin) (as : List Value) (ts : Array TypeId) (h : Hp) (K : Value → List (Hp → Prop) → Prop) : Prop :=
  match b, as, ts[0]? with
  | .len, [x], some t => lenF P t x h K
  | .cap, [x], some t => capV P t x fun v => K v []
  | .min, [x, y], _ => minV x y fun v => K v []
  | .max, [x, y], _ => maxV x y fun v => K v []
  | .min, [x, y, z], _ => min3V x y z fun v => K v []
  | .max, [x, y, z], _ => max3V x y z fun v => K v []
  | _, _, _ => False

def quW (P : Program) (o : Oper) (ρ : Fr) (h : Hp) (K : Option Value → List (Hp → Prop) → Prop) : Prop :=
  match o.op with
  | .move x => K (ev ρ x) []
  | .assign x => K (ev ρ x) []
  | .pick c a b => pickW (ev ρ c) (ev ρ a) (ev ρ b) fun r => K r []
  | .build t ps => eP ρ ps.toList fun vs => e1 (bldV P t vs) fun v => K (some v) []
  | .load t a => e1 (ev ρ a) fun p => adW p fun ad => ldF P t ad h fun v fs => K (some v) fs
  | .nilCheck x => e1 (ev ρ x) fun v => nilV v fun u => K (some u) []
  | .binOp op t x y _ => e1 (ev ρ x) fun a => e1 (ev ρ y) fun b => binW P op t a b fun v => K (some v) []
  | .unOp op _ x => e1 (ev ρ x) fun a => unW op a fun v => K (some v) []
  | .convert s d x => e1 (ev ρ x) fun a => cvF P s d a h fun v fs => K (some v) fs
  | .makeFunc fn f c => eL (evL ρ f.toList) fun fv => eL (evL ρ c.toList) fun cv => K (some (.func fn fv.toArray cv.toArray)) []
  | .slice t x lo hi none => e1 (ev ρ x) fun v => eO ρ lo fun l => eO ρ hi fun u => slW P t v l u fun r => K (some r) []
  | .fieldAddr t x f => e1 (ev ρ x) fun p => adW p fun ad => fldW P t ad f fun v => K (some v) []
  | .field t x f => e1 (ev ρ x) fun a => fieldW P t a f fun v => K (some v) []
  | .indexAddr t x i => e1 (ev ρ x) fun a => e1 (ev ρ i) fun b => ixW P t a b fun v => K (some v) []
  | .index t x i => e1 (ev ρ x) fun a => e1 (ev ρ i) fun b => indexW P t a b fun v => K (some v) []
  | .lookup t m k ok => e1 (ev ρ m) fun a => e1 (ev ρ k) fun b => lookF P t a b ok h fun v fs => K (some v) fs
  | .extract x i => e1 (ev ρ x) fun v => extV v i fun u => K (some u) []
  | .call { callee := .builtin b, args, argTypes } => eL (evL ρ args.toList) fun as => quB P b as argTypes h fun v fs => K (some v) fs
  | _ => False


section
variable {P : Program} {h : Hp}
/-! ### each plain rule names one value -/
theorem binI_det {op : BinOp} {k : IntKind} {a b : Int} {K : Value → Prop} (H : binI op k a b K) : ∃ v, K v ∧ ∀ K2 : Value → Prop, K2 v → binI op k a b K2 := by
  cases op <;> simp only [binI, divOk] at H ⊢ <;> first | exact H.elim | exact ⟨_, H, fun _ h => h⟩ | exact ⟨_, H.2, fun _ h => ⟨H.1, h⟩⟩
theorem binS_det {op : BinOp} {a b : ByteArray} {K : Value → Prop} (H : binS op a b K) : ∃ v, K v ∧ ∀ K2 : Value → Prop, K2 v → binS op a b K2 := by
  cases op <;> simp only [binS, catOk] at H ⊢ <;> first | exact H.elim | exact ⟨_, H, fun _ h => h⟩ | exact ⟨_, H.2, fun _ h => ⟨H.1, h⟩⟩
theorem ptrW_det {ok : Bool} {p q : Option Addr} {J : Bool → Value} {K : Value → Prop} (H : ptrW ok p q fun b => K (J b)) : ∃ v, K v ∧ ∀ K2 : Value → Prop, K2 v → ptrW ok p q fun b => K2 (J b) := by
  unfold ptrW at H ⊢
  split at H
  · exact ⟨_, H, fun _ h => h⟩
  · split at H
    · exact ⟨_, H, fun _ h => h⟩
    · exact ⟨_, H.2.2, fun _ h => ⟨H.1, H.2.1, h⟩⟩
theorem binW_det {op : BinOp} {t : TypeId} {a b : Value} {K : Value → Prop} (H : binW P op t a b K) : ∃ v, K v ∧ ∀ K2 : Value → Prop, K2 v → binW P op t a b K2 := by
  unfold binW at H ⊢
  split at H
  · split at H
    · exact ⟨_, H.2, fun _ h => ⟨H.1, h⟩⟩
    · exact ⟨_, H.2, fun _ h => ⟨H.1, h⟩⟩
    · split at H
      · obtain ⟨v, hv, hb⟩ := binI_det H
        exact ⟨v, hv, fun K2 h => hb K2 h⟩
      · exact H.elim
  · obtain ⟨v, hv, hb⟩ := binS_det H
    exact ⟨v, hv, fun K2 h => hb K2 h⟩
  · split at H
    · unfold fltB at H ⊢
      split at H
      iterate 4 (· exact ⟨_, H, fun K2 h => h⟩)
      exact H.elim
    · exact H.elim
  · split at H
    · split at H
      · exact ⟨_, H, fun K2 h => h⟩
      · exact ⟨_, H, fun K2 h => h⟩
      · exact H.elim
    · exact H.elim
  · split at H
    · exact ⟨_, H, fun K2 h => h⟩
    · exact ⟨_, H, fun K2 h => h⟩
    · exact H.elim
  · split at H
    · split at H
      · exact ptrW_det H
      · exact ptrW_det H
      · exact H.elim
    · exact H.elim
  · split at H
    · split at H
      · split at H
        · exact ⟨_, H, fun K2 h => h⟩
        · exact ⟨_, H, fun K2 h => h⟩
        · exact H.elim
      · exact H.elim
    · exact H.elim
theorem unW_det {op : UnOp} {x : Value} {K : Value → Prop} (H : unW op x K) : ∃ v, K v ∧ ∀ K2 : Value → Prop, K2 v → unW op x K2 := by
  unfold unW at H ⊢
  split at H <;> first | exact ⟨_, H, fun _ h => h⟩ | exact H.elim
theorem fldW_det {t : TypeId} {a : Addr} {f : Nat} {K : Value → Prop} (H : fldW P t a f K) : ∃ v, K v ∧ ∀ K2 : Value → Prop, K2 v → fldW P t a f K2 := by
  unfold fldW at H ⊢
  split at H
  · split at H
    · split at H
      · exact ⟨_, H, fun K2 h => h⟩
      · exact H.elim
    · exact H.elim
  · exact H.elim
theorem ixW_det {t : TypeId} {x i : Value} {K : Value → Prop} (H : ixW P t x i K) : ∃ v, K v ∧ ∀ K2 : Value → Prop, K2 v → ixW P t x i K2 := by
  unfold ixW at H ⊢
  split at H
  · split at H
    · split at H
      · exact ⟨_, H.2.2, fun K2 h => ⟨H.1, H.2.1, h⟩⟩
      · exact H.elim
    · split at H
      · obtain ⟨a, ha, h1, h2, h3⟩ := H
        exact ⟨_, h3, fun K2 h => ⟨a, ha, h1, h2, h⟩⟩
      · exact H.elim
    · exact H.elim
  · exact H.elim
theorem e1_det {x : Option Value} {K : Value → Prop} (H : e1 x K) : ∃ v, K v ∧ ∀ K2 : Value → Prop, K2 v → e1 x K2 := by
  obtain ⟨v, rfl, hv⟩ := e1_some H
  exact ⟨v, hv, fun _ h => h⟩
theorem fieldW_det {t : TypeId} {x : Value} {f : Nat} {K : Value → Prop} (H : fieldW P t x f K) : ∃ v, K v ∧ ∀ K2 : Value → Prop, K2 v → fieldW P t x f K2 := by
  unfold fieldW at H ⊢
  split at H
  · split at H
    · exact e1_det H
    · exact H.elim
  · exact H.elim
theorem exC_det {ct : CT} {p : Value → Prop} {K : Value → Prop} (H : exC ct fun v => p v ∧ K v) : ∃ v, K v ∧ ∀ K2 : Value → Prop, K2 v → exC ct (fun u => p u ∧ K2 u) := by
  cases ct <;> simp only [exC] at H ⊢
  case fn => obtain ⟨i, cs, h1, h2⟩ := H; exact ⟨_, h2, fun K2 h => ⟨i, cs, h1, h⟩⟩
  all_goals (obtain ⟨x, h1, h2⟩ := H; exact ⟨_, h2, fun K2 h => ⟨x, h1, h⟩⟩)
theorem indexW_det {t : TypeId} {x i : Value} {K : Value → Prop} (H : indexW P t x i K) : ∃ v, K v ∧ ∀ K2 : Value → Prop, K2 v → indexW P t x i K2 := by
  unfold indexW at H ⊢
  split at H
  · split at H
    · split at H
      · obtain ⟨v, hv, he⟩ := exC_det H.2.2
        exact ⟨v, hv, fun K2 h => ⟨H.1, H.2.1, he K2 h⟩⟩
      · exact H.elim
    · exact ⟨_, H.2.2, fun K2 h => ⟨H.1, H.2.1, h⟩⟩
    · exact H.elim
  · exact H.elim
theorem bdW_det {n c : Nat} {lo hi : Option Int} {f : Nat → Nat → Value} {K : Value → Prop} (H : bdW n c lo hi fun l u => K (f l u)) : ∃ v, K v ∧ ∀ K2 : Value → Prop, K2 v → bdW n c lo hi (fun l u => K2 (f l u)) := by
  cases lo <;> cases hi <;> simp only [bdW] at H ⊢ <;> first | exact ⟨_, H, fun _ h => h⟩ | exact ⟨_, H.2, fun _ h => ⟨H.1, h⟩⟩
theorem slW_det {t : TypeId} {x : Value} {lo hi : Option Value} {K : Value → Prop} (H : slW P t x lo hi K) : ∃ v, K v ∧ ∀ K2 : Value → Prop, K2 v → slW P t x lo hi K2 := by
  unfold slW at H ⊢
  split at H
  · split at H
    · exact bdW_det H
    · split at H
      · exact bdW_det H
      · exact H.elim
    · split at H
      · exact bdW_det H
      · exact H.elim
    · exact H.elim
  · exact H.elim
theorem capV_det {t : TypeId} {x : Value} {K : Value → Prop} (H : capV P t x K) : ∃ v, K v ∧ ∀ K2 : Value → Prop, K2 v → capV P t x K2 := by
  unfold capV at H ⊢
  split at H
  · exact ⟨_, H, fun _ h => h⟩
  · exact H.elim
theorem minV_det {x y : Value} {K : Value → Prop} (H : minV x y K) : ∃ v, K v ∧ ∀ K2 : Value → Prop, K2 v → minV x y K2 := by
  unfold minV at H ⊢
  split at H
  · exact ⟨_, H, fun _ h => h⟩
  · exact H.elim
theorem maxV_det {x y : Value} {K : Value → Prop} (H : maxV x y K) : ∃ v, K v ∧ ∀ K2 : Value → Prop, K2 v → maxV x y K2 := by
  unfold maxV at H ⊢
  split at H
  · exact ⟨_, H, fun _ h => h⟩
  · exact H.elim
theorem min3V_det {x y z : Value} {K : Value → Prop} (H : min3V x y z K) : ∃ v, K v ∧ ∀ K2 : Value → Prop, K2 v → min3V x y z K2 := by
  unfold min3V at H ⊢
  split at H
  · exact ⟨_, H, fun _ h => h⟩
  · exact H.elim
theorem max3V_det {x y z : Value} {K : Value → Prop} (H : max3V x y z K) : ∃ v, K v ∧ ∀ K2 : Value → Prop, K2 v → max3V x y z K2 := by
  unfold max3V at H ⊢
  split at H
  · exact ⟨_, H, fun _ h => h⟩
  · exact H.elim
theorem eO_some {ρ : Fr} {x : Option Operand} {K : Option Value → Prop} (H : eO ρ x K) {ρ' : Operand → Value} (hρ : ∀ x v, ev ρ x = some v → ρ' x = v) : K (x.map ρ') := by
  cases x with
  | none => exact H
  | some x => obtain ⟨v, h1, h2⟩ := e1_some H; rw [Option.map_some, hρ _ _ h1]; exact h2
end

section
variable {P : Program} {h : Hp}
/-- What a quiet rule gives: a value, facts that hold now, and wherever they hold the operation yields that value and leaves the heap. -/
theorem quW_spec {o : Oper} {ρ : Fr} {K : Option Value → List (Hp → Prop) → Prop} (H : quW P o ρ h K) (ρ' : Operand → Value) (hρ : ∀ x v, ev ρ x = some v → ρ' x = v) :
    ∃ r fs v, K r fs ∧ allF fs h ∧ agrees r v ∧ ∀ h', allF fs h' → semR P (execOp ρ' o) h' (fun nx _ => nx = .value v) := by
  obtain ⟨dst, op, type, pos, after, guard⟩ := o
  cases op <;> simp only [quW] at H <;> try exact H.elim
  case move x =>
    exact ⟨_, _, ρ' x, H, allF_nil, fun u hu => (hρ _ _ hu).symm, fun h' _ => rfl⟩
  case assign x =>
    exact ⟨_, _, ρ' x, H, allF_nil, fun u hu => (hρ _ _ hu).symm, fun h' _ => rfl⟩
  case pick c a b =>
    unfold pickW at H
    split at H
    · rename_i t hc
      have hc' := hρ _ _ hc
      split at H
      · rename_i x y ha hb
        refine ⟨_, _, _, H, allF_nil, agrees_some _, fun h' _ => ?_⟩
        simp only [execOp, hc', hρ _ _ ha, hρ _ _ hb, semR_bind', asBool, semR_pure]
        cases t <;> rfl
      · rename_i a' b' _
        cases t with
        | true =>
          refine ⟨_, _, ρ' a, H, allF_nil, fun u hu => (hρ _ _ hu).symm, fun h' _ => ?_⟩
          simp only [execOp, hc', semR_bind', asBool, semR_pure, if_true]
        | false =>
          refine ⟨_, _, ρ' b, H, allF_nil, fun u hu => (hρ _ _ hu).symm, fun h' _ => ?_⟩
          simp only [execOp, hc', semR_bind', asBool, semR_pure, Bool.false_eq_true, if_false]
    · exact H.elim
  case build t ps =>
    unfold eP at H
    split at H
    · rename_i vs hvs
      obtain ⟨v, h1, h2⟩ := e1_some H
      refine ⟨_, _, v, h2, allF_nil, agrees_some _, fun h' _ => ?_⟩
      have h3 := evP_eq hρ _ _ hvs
      simp only [execOp, semR_bind', semR_pure]
      refine bldV_sound (v := v) ?_ rfl
      rw [Array.toList_map]
      rw [h3]
      exact h1
    · exact H.elim
  case load t a =>
    obtain ⟨p, h1, H⟩ := e1_some H
    obtain ⟨ad, rfl, H⟩ := adW_some H
    obtain ⟨v, fs, h2, h3, h4⟩ := ldF_spec H
    refine ⟨_, _, v, h2, h3, agrees_some _, fun h' hf => ?_⟩
    simp only [execOp, hρ _ _ h1, Instr.loadAt, Instr.sureAddr, semR_bind', semR_pure]
    exact h4 h' hf _ rfl
  case nilCheck x =>
    obtain ⟨v, h1, H⟩ := e1_some H
    unfold nilV at H
    split at H
    · rename_i p
      obtain ⟨a, rfl, H⟩ := H
      refine ⟨_, _, _, H, allF_nil, agrees_some _, fun h' _ => ?_⟩
      simp only [execOp, hρ _ _ h1, semR_pure]
    · refine ⟨_, _, _, H, allF_nil, agrees_some _, fun h' _ => ?_⟩
      simp only [execOp, hρ _ _ h1, semR_pure]
    · exact H.elim
  case binOp op t x y u =>
    obtain ⟨a, h1, H⟩ := e1_some H
    obtain ⟨b, h2, H⟩ := e1_some H
    obtain ⟨v, hv, hb⟩ := binW_det H
    refine ⟨_, _, v, hv, allF_nil, agrees_some _, fun h' _ => ?_⟩
    simp only [execOp, hρ _ _ h1, hρ _ _ h2]
    rw [semR_bind']
    exact binW_sound (hb (fun w => w = v) rfl) fun w hw => by rw [hw]; rfl
  case unOp op t x =>
    obtain ⟨a, h1, H⟩ := e1_some H
    obtain ⟨v, hv, hb⟩ := unW_det H
    refine ⟨_, _, v, hv, allF_nil, agrees_some _, fun h' _ => ?_⟩
    simp only [execOp, hρ _ _ h1]
    rw [semR_bind']
    exact unW_sound (hb (fun w => w = v) rfl) fun w hw => by rw [hw]; rfl
  case convert s d x =>
    obtain ⟨a, h1, H⟩ := e1_some H
    obtain ⟨v, fs, h2, h3, h4⟩ := cvF_spec H
    refine ⟨_, _, v, h2, h3, agrees_some _, fun h' hf => ?_⟩
    simp only [execOp, hρ _ _ h1]
    rw [semR_bind']
    exact h4 h' hf _ rfl
  case makeFunc fn f c =>
    obtain ⟨fv, h1, H⟩ := eL_some H
    obtain ⟨cv, h2, H⟩ := eL_some H
    refine ⟨_, _, _, H, allF_nil, agrees_some _, fun h' _ => ?_⟩
    have h3 := evL_eq hρ _ _ h1
    have h4 := evL_eq hρ _ _ h2
    have e1 : f.map ρ' = fv.toArray := by rw [← h3, ← Array.toList_map]
    have e2 : c.map ρ' = cv.toArray := by rw [← h4, ← Array.toList_map]
    simp only [execOp, Instr.makeFunc, e1, e2]
    rfl
  case slice t x lo hi mx =>
    cases mx with
    | some m => exact H.elim
    | none =>
      obtain ⟨a, h1, H⟩ := e1_some H
      have H := eO_some (eO_some H hρ) hρ
      obtain ⟨v, hv, hb⟩ := slW_det H
      refine ⟨_, _, v, hv, allF_nil, agrees_some _, fun h' _ => ?_⟩
      simp only [execOp, hρ _ _ h1]
      rw [semR_bind']
      exact slW_sound (hb (fun w => w = v) rfl) fun w hw => by rw [hw]; rfl
  case fieldAddr t x f =>
    obtain ⟨p, h1, H1⟩ := e1_some H
    obtain ⟨ad, rfl, H2⟩ := adW_some H1
    obtain ⟨v, hv, hb⟩ := fldW_det H2
    refine ⟨_, _, v, hv, allF_nil, agrees_some _, fun h' _ => ?_⟩
    simp only [execOp, hρ _ _ h1]
    rw [semR_bind']
    exact fldW_sound (hb (fun w => w = v) rfl) fun w hw => by rw [hw]; rfl
  case field t x f =>
    obtain ⟨a, h1, H⟩ := e1_some H
    obtain ⟨v, hv, hb⟩ := fieldW_det H
    refine ⟨_, _, v, hv, allF_nil, agrees_some _, fun h' _ => ?_⟩
    simp only [execOp, hρ _ _ h1]
    rw [semR_bind']
    exact fieldW_sound (hb (fun w => w = v) rfl) fun w hw => by rw [hw]; rfl
  case indexAddr t x i =>
    obtain ⟨a, h1, H⟩ := e1_some H
    obtain ⟨b, h2, H⟩ := e1_some H
    obtain ⟨v, hv, hb⟩ := ixW_det H
    refine ⟨_, _, v, hv, allF_nil, agrees_some _, fun h' _ => ?_⟩
    simp only [execOp, hρ _ _ h1, hρ _ _ h2]
    rw [semR_bind']
    exact ixW_sound (hb (fun w => w = v) rfl) fun w hw => by rw [hw]; rfl
  case index t x i =>
    obtain ⟨a, h1, H⟩ := e1_some H
    obtain ⟨b, h2, H⟩ := e1_some H
    obtain ⟨v, hv, hb⟩ := indexW_det H
    refine ⟨_, _, v, hv, allF_nil, agrees_some _, fun h' _ => ?_⟩
    simp only [execOp, hρ _ _ h1, hρ _ _ h2]
    rw [semR_bind']
    exact indexW_sound (hb (fun w => w = v) rfl) fun w hw => by rw [hw]; rfl
  case lookup t m k ok =>
    obtain ⟨a, h1, H⟩ := e1_some H
    obtain ⟨b, h2, H⟩ := e1_some H
    obtain ⟨v, fs, g1, g2, g3⟩ := lookF_spec H
    refine ⟨_, _, v, g1, g2, agrees_some _, fun h' hf => ?_⟩
    simp only [execOp, hρ _ _ h1, hρ _ _ h2]
    rw [semR_bind']
    exact g3 h' hf _ rfl
  case extract x i =>
    obtain ⟨a, h1, H⟩ := e1_some H
    unfold extV at H
    split at H
    · rename_i vs
      obtain ⟨v, h2, h3⟩ := e1_some H
      refine ⟨_, _, v, h3, allF_nil, agrees_some _, fun h' _ => ?_⟩
      simp only [execOp, hρ _ _ h1, Instr.extract, h2]
      rfl
    · exact H.elim
  case call c =>
    obtain ⟨callee, args, ts⟩ := c
    cases callee <;> simp only [quW] at H <;> try exact H.elim
    rename_i b
    obtain ⟨as, h1, H1⟩ := eL_some H
    clear H
    have h3 := evL_eq hρ _ _ h1
    have e1 : args.map ρ' = as.toArray := by rw [← h3, ← Array.toList_map]
    unfold quB at H1
    split at H1
    · rename_i x t ht
      obtain ⟨v, fs, g1, g2, g3⟩ := lenF_spec (ty := type) ht H1
      refine ⟨_, _, v, g1, g2, agrees_some _, fun h' hf => ?_⟩
      simp only [execOp, resolve, e1, semR_bind', semR_pure, invoke, builtin]
      exact g3 h' hf _ rfl
    · rename_i x t ht
      obtain ⟨v, hv, hb⟩ := capV_det H1
      refine ⟨_, _, v, hv, allF_nil, agrees_some _, fun h' _ => ?_⟩
      simp only [execOp, resolve, e1, semR_bind', semR_pure, invoke, builtin]
      exact capV_sound ht (hb (fun w => w = v) rfl) fun w hw => by rw [hw]
    · rename_i x y o
      obtain ⟨v, hv, hb⟩ := minV_det H1
      refine ⟨_, _, v, hv, allF_nil, agrees_some _, fun h' _ => ?_⟩
      simp only [execOp, resolve, e1, semR_bind', semR_pure, invoke, builtin]
      exact minV_sound (hb (fun w => w = v) rfl) fun w hw => by rw [hw]
    · rename_i x y o
      obtain ⟨v, hv, hb⟩ := maxV_det H1
      refine ⟨_, _, v, hv, allF_nil, agrees_some _, fun h' _ => ?_⟩
      simp only [execOp, resolve, e1, semR_bind', semR_pure, invoke, builtin]
      exact maxV_sound (hb (fun w => w = v) rfl) fun w hw => by rw [hw]
    · rename_i x y z o
      obtain ⟨v, hv, hb⟩ := min3V_det H1
      refine ⟨_, _, v, hv, allF_nil, agrees_some _, fun h' _ => ?_⟩
      simp only [execOp, resolve, e1, semR_bind', semR_pure, invoke, builtin]
      exact min3V_sound (hb (fun w => w = v) rfl) fun w hw => by rw [hw]
    · rename_i x y z o
      obtain ⟨v, hv, hb⟩ := max3V_det H1
      refine ⟨_, _, v, hv, allF_nil, agrees_some _, fun h' _ => ?_⟩
      simp only [execOp, resolve, e1, semR_bind', semR_pure, invoke, builtin]
      exact max3V_sound (hb (fun w => w = v) rfl) fun w hw => by rw [hw]
    · exact H1.elim
end
end Go.Lift

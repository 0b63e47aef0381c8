/- One operation: the quiet ones (they yield a value and leave the heap) and the loud ones, gathered; soundness. -/
import Derived.Test.YtgdiihffjogdiaaGreatDoorLvF
set_option linter.unusedSimpArgs false
set_option linter.unusedVariables false
namespace Go.Lift

def agrees (r : Option Value) (v : Value) : Prop := ∀ u, r = some u → u = v
theorem agrees_some (v : Value) : agrees (some v) v := fun _ h => by simpa using h.symm
def eO (ρ : Fr) (x : Option Operand) (K : Option Value → Prop) : Prop :=
  match x with
  | none => K none
  | some x => e1 (ev ρ x) fun v => K (some v)
def eP (ρ : Fr) (ps : List (Nat × Operand)) (K : List (Nat × Value) → Prop) : Prop := match evP ρ ps with | some vs => K vs | none => False
def pickW (c a b : Option Value) (K : Option Value → Prop) : Prop :=
  match c with
  | some (.bool t) => match a, b with
    | some (.bool x), some (.bool y) => K (some (.bool (cond t x y)))
    | a, b => match t with | true => K a | false => K b
  | _ => False
def extV (x : Value) (i : Nat) (K : Value → Prop) : Prop :=
  match x with
  | .tuple vs => e1 vs[i]? K
  | _ => False
def isQuiet (P : Program) (o : Op) : Bool :=
  match o with
  | .move _ | .assign _ | .pick _ _ _ | .build _ _ | .load _ _ | .nilCheck _ | .binOp _ _ _ _ _ | .unOp _ _ _ | .makeFunc _ _ _ | .slice _ _ _ _ none | .fieldAddr _ _ _ | .field _ _ _
  | .indexAddr _ _ _ | .index _ _ _ | .lookup _ _ _ _ | .extract _ _ => true
  | .convert s d _ => match P.underlying s, P.underlying d with | some .string, some (.slice _) => false | _, _ => true
  | .call { callee := .builtin .len, .. } | .call { callee := .builtin .cap, .. } | .call { callee := .builtin .min, .. } | .call { callee := .builtin .max, .. } => true
  | _ => false

def quB (P : Program) (b : Builtin) (as : List Value) (ts : Array TypeId) (h : Hp) (K : Value → List (Hp → Prop) → Prop) : Prop :=
  match b, as, ts[0]? with
  | .len, [x], some t => lenF P t x h K
  | .cap, [x], some t => capV P t x fun v => K v []
  | .min, [x, y], _ => minV x y fun v => K v []
  | .max, [x, y], _ => maxV x y fun v => K v []
  | .min, [x, y, z], _ => min3V x y z fun v => K v []
  | .max, [x, y, z], _ => max3V x y z fun v => K v []
  | _, _, _ => False

def quW (P : Program) (o : Oper) (ρ : Fr) (h : Hp) (K : Option Value → List (Hp → Prop) → Prop) : Prop :=
  match o.op with
  | .move x => K (ev ρ x) []
  | .assign x => K (ev ρ x) []
  | .pick c a b => pickW (ev ρ c) (ev ρ a) (ev ρ b) fun r => K r []
  | .build t ps => eP ρ ps.toList fun vs => e1 (bldV P t vs) fun v => K (some v) []
  | .load t a => e1 (ev ρ a) fun p => adW p fun ad => ldF P t ad h fun v fs => K (some v) fs
  | .nilCheck x => e1 (ev ρ x) fun v => nilV v fun u => K (some u) []
  | .binOp op t x y _ => e1 (ev ρ x) fun a => e1 (ev ρ y) fun b => binW P op t a b fun v => K (some v) []
  | .unOp op _ x => e1 (ev ρ x) fun a => unW op a fun v => K (some v) []
  | .convert s d x => e1 (ev ρ x) fun a => cvF P s d a h fun v fs => K (some v) fs
  | .makeFunc fn f c => eL (evL ρ f.toList) fun fv => eL (evL ρ c.toList) fun cv => K (some (.func fn fv.toArray cv.toArray)) []
  | .slice t x lo hi none => e1 (ev ρ x) fun v => eO ρ lo fun l => eO ρ hi fun u => slW P t v l u fun r => K (some r) []
  | .fieldAddr t x f => e1 (ev ρ x) fun p => adW p fun ad => fldW P t ad f fun v => K (some v) []
  | .field t x f => e1 (ev ρ x) fun a => fieldW P t a f fun v => K (some v) []
  | .indexAddr t x i => e1 (ev ρ x) fun a => e1 (ev ρ i) fun b => ixW P t a b fun v => K (some v) []
  | .index t x i => e1 (ev ρ x) fun a => e1 (ev ρ i) fun b => indexW P t a b fun v => K (some v) []
  | .lookup t m k ok => e1 (ev ρ m) fun a => e1 (ev ρ k) fun b => lookF P t a b ok h fun v fs => K (some v) fs
  | .extract x i => e1 (ev ρ x) fun v => extV v i fun u => K (some u) []
  | .call { callee := .builtin b, args, argTypes } => eL (evL ρ args.toList) fun as => quB P b as argTypes h fun v fs => K (some v) fs
  | _ => False


section
variable {P : Program} {h : Hp}
/-! ### each plain rule names one value -/
theorem binI_det {op : BinOp} {k : IntKind} {a b : Int} {K : Value → Prop} (H : binI op k a b K) : ∃ v, K v ∧ ∀ K2 : Value → Prop, K2 v → binI op k a b K2 := by
  cases op <;> simp only [binI, divOk] at H ⊢ <;> first | exact H.elim | exact ⟨_, H, fun _ h => h⟩ | exact ⟨_, H.2, fun _ h => ⟨H.1, h⟩⟩
theorem binS_det {op : BinOp} {a b : ByteArray} {K : Value → Prop} (H : binS op a b K) : ∃ v, K v ∧ ∀ K2 : Value → Prop, K2 v → binS op a b K2 := by
  cases op <;> simp only [binS, catOk] at H ⊢ <;> first | exact H.elim | exact ⟨_, H, fun _ h => h⟩ | exact ⟨_, H.2, fun _ h => ⟨H.1, h⟩⟩
theorem ptrW_det {ok : Bool} {p q : Option Addr} {J : Bool → Value} {K : Value → Prop} (H : ptrW ok p q fun b => K (J b)) : ∃ v, K v ∧ ∀ K2 : Value → Prop, K2 v → ptrW ok p q fun b => K2 (J b) := by
  unfold ptrW at H ⊢
  split at H
  · exact ⟨_, H, fun _ h => h⟩
  · split at H
    · exact ⟨_, H, fun _ h => h⟩
    · exact ⟨_, H.2.2, fun _ h => ⟨H.1, H.2.1, h⟩⟩
theorem binW_det {op : BinOp} {t : TypeId} {a b : Value} {K : Value → Prop} (H : binW P op t a b K) : ∃ v, K v ∧ ∀ K2 : Value → Prop, K2 v → binW P op t a b K2 := by
  unfold binW at H ⊢
  split at H
  · split at H
    · exact ⟨_, H.2, fun _ h => ⟨H.1, h⟩⟩
    · exact ⟨_, H.2, fun _ h => ⟨H.1, h⟩⟩
    · split at H
      · obtain ⟨v, hv, hb⟩ := binI_det H
        exact ⟨v, hv, fun K2 h => hb K2 h⟩
      · exact H.elim
  · obtain ⟨v, hv, hb⟩ := binS_det H
    exact ⟨v, hv, fun K2 h => hb K2 h⟩
  · split at H
    · unfold fltB at H ⊢
      split at H
      iterate 4 (· exact ⟨_, H, fun K2 h => h⟩)
      exact H.elim
    · exact H.elim
  · split at H
    · split at H
      · exact ⟨_, H, fun K2 h => h⟩
      · exact ⟨_, H, fun K2 h => h⟩
      · exact H.elim
    · exact H.elim
  · split at H
    · exact ⟨_, H, fun K2 h => h⟩
    · exact ⟨_, H, fun K2 h => h⟩
    · exact H.elim
  · split at H
    · split at H
      · exact ptrW_det H
      · exact ptrW_det H
      · exact H.elim
    · exact H.elim
  · split at H
    · split at H
      · split at H
        · exact ⟨_, H, fun K2 h => h⟩
        · exact ⟨_, H, fun K2 h => h⟩
        · exact H.elim
      · exact H.elim
    · exact H.elim
theorem unW_det {op : UnOp} {x : Value} {K : Value → Prop} (H : unW op x K) : ∃ v, K v ∧ ∀ K2 : Value → Prop, K2 v → unW op x K2 := by
  unfold unW at H ⊢
  split at H <;> first | exact ⟨_, H, fun _ h => h⟩ | exact H.elim
theorem fldW_det {t : TypeId} {a : Addr} {f : Nat} {K : Value → Prop} (H : fldW P t a f K) : ∃ v, K v ∧ ∀ K2 : Value → Prop, K2 v → fldW P t a f K2 := by
  unfold fldW at H ⊢
  split at H
  · split at H
    · split at H
      · exact ⟨_, H, fun K2 h => h⟩
      · exact H.elim
    · exact H.elim
  · exact H.elim
theorem ixW_det {t : TypeId} {x i : Value} {K : Value → Prop} (H : ixW P t x i K) : ∃ v, K v ∧ ∀ K2 : Value → Prop, K2 v → ixW P t x i K2 := by
  unfold ixW at H ⊢
  split at H
  · split at H
    · split at H
      · exact ⟨_, H.2.2, fun K2 h => ⟨H.1, H.2.1, h⟩⟩
      · exact H.elim
    · split at H
      · obtain ⟨a, ha, h1, h2, h3⟩ := H
        exact ⟨_, h3, fun K2 h => ⟨a, ha, h1, h2, h⟩⟩
      · exact H.elim
    · exact H.elim
  · exact H.elim
theorem e1_det {x : Option Value} {K : Value → Prop} (H : e1 x K) : ∃ v, K v ∧ ∀ K2 : Value → Prop, K2 v → e1 x K2 := by
  obtain ⟨v, rfl, hv⟩ := e1_some H
  exact ⟨v, hv, fun _ h => h⟩
theorem fieldW_det {t : TypeId} {x : Value} {f : Nat} {K : Value → Prop} (H : fieldW P t x f K) : ∃ v, K v ∧ ∀ K2 : Value → Prop, K2 v → fieldW P t x f K2 := by
  unfold fieldW at H ⊢
  split at H
  · split at H
    · exact e1_det H
    · exact H.elim
  · exact H.elim
theorem exC_det {ct : CT} {p : Value → Prop} {K : Value → Prop} (H : exC ct fun v => p v ∧ K v) : ∃ v, K v ∧ ∀ K2 : Value → Prop, K2 v → exC ct (fun u => p u ∧ K2 u) := by
  cases ct <;> simp only [exC] at H ⊢
  case fn => obtain ⟨i, cs, h1, h2⟩ := H; exact ⟨_, h2, fun K2 h => ⟨i, cs, h1, h⟩⟩
  all_goals (obtain ⟨x, h1, h2⟩ := H; exact ⟨_, h2, fun K2 h => ⟨x, h1, h⟩⟩)
theorem indexW_det {t : TypeId} {x i : Value} {K : Value → Prop} (H : indexW P t x i K) : ∃ v, K v ∧ ∀ K2 : Value → Prop, K2 v → indexW P t x i K2 := by
  unfold indexW at H ⊢
  split at H
  · split at H
    · split at H
      · obtain ⟨v, hv, he⟩ := exC_det H.2.2
        exact ⟨v, hv, fun K2 h => ⟨H.1, H.2.1, he K2 h⟩⟩
      · exact H.elim
    · exact ⟨_, H.2.2, fun K2 h => ⟨H.1, H.2.1, h⟩⟩
    · exact H.elim
  · exact H.elim
theorem bdW_det {n c : Nat} {lo hi : Option Int} {f : Nat → Nat → Value} {K : Value → Prop} (H : bdW n c lo hi fun l u => K (f l u)) : ∃ v, K v ∧ ∀ K2 : Value → Prop, K2 v → bdW n c lo hi (fun l u => K2 (f l u)) := by
  cases lo <;> cases hi <;> simp only [bdW] at H ⊢ <;> first | exact ⟨_, H, fun _ h => h⟩ | exact ⟨_, H.2, fun _ h => ⟨H.1, h⟩⟩
theorem slW_det {t : TypeId} {x : Value} {lo hi : Option Value} {K : Value → Prop} (H : slW P t x lo hi K) : ∃ v, K v ∧ ∀ K2 : Value → Prop, K2 v → slW P t x lo hi K2 := by
  unfold slW at H ⊢
  split at H
  · split at H
    · exact bdW_det H
    · split at H
      · exact bdW_det H
      · exact H.elim
    · split at H
      · exact bdW_det H
      · exact H.elim
    · exact H.elim
  · exact H.elim
theorem capV_det {t : TypeId} {x : Value} {K : Value → Prop} (H : capV P t x K) : ∃ v, K v ∧ ∀ K2 : Value → Prop, K2 v → capV P t x K2 := by
  unfold capV at H ⊢
  split at H
  · exact ⟨_, H, fun _ h => h⟩
  · exact H.elim
theorem minV_det {x y : Value} {K : Value → Prop} (H : minV x y K) : ∃ v, K v ∧ ∀ K2 : Value → Prop, K2 v → minV x y K2 := by
  unfold minV at H ⊢
  split at H
  · exact ⟨_, H, fun _ h => h⟩
  · exact H.elim
theorem maxV_det {x y : Value} {K : Value → Prop} (H : maxV x y K) : ∃ v, K v ∧ ∀ K2 : Value → Prop, K2 v → maxV x y K2 := by
  unfold maxV at H ⊢
  split at H
  · exact ⟨_, H, fun _ h => h⟩
  · exact H.elim
theorem min3V_det {x y z : Value} {K : Value → Prop} (H : min3V x y z K) : ∃ v, K v ∧ ∀ K2 : Value → Prop, K2 v → min3V x y z K2 := by
  unfold min3V at H ⊢
  split at H
  · exact ⟨_, H, fun _ h => h⟩
  · exact H.elim
theorem max3V_det {x y z : Value} {K : Value → Prop} (H : max3V x y z K) : ∃ v, K v ∧ ∀ K2 : Value → Prop, K2 v → max3V x y z K2 := by
  unfold max3V at H ⊢
  split at H
  · exact ⟨_, H, fun _ h => h⟩
  · exact H.elim
theorem eO_some {ρ : Fr} {x : Option Operand} {K : Option Value → Prop} (H : eO ρ x K) {ρ' : Operand → Value} (hρ : ∀ x v, ev ρ x = some v → ρ' x = v) : K (x.map ρ') := by
  cases x with
  | none => exact H
  | some x => obtain ⟨v, h1, h2⟩ := e1_some H; rw [Option.map_some, hρ _ _ h1]; exact h2
end

section
variable {P : Program} {h : Hp}
/-- What a quiet rule gives: a value, facts that hold now, and wherever they hold the operation yields that value and leaves the heap. -/
theorem quW_spec {o : Oper} {ρ : Fr} {K : Option Value → List (Hp → Prop) → Prop} (H : quW P o ρ h K) (ρ' : Operand → Value) (hρ : ∀ x v, ev ρ x = some v → ρ' x = v) :
    ∃ r fs v, K r fs ∧ allF fs h ∧ agrees r v ∧ ∀ h', allF fs h' → semR P (execOp ρ' o) h' (fun nx _ => nx = .value v) := by
  obtain ⟨dst, op, type, pos, after, guard⟩ := o
  cases op <;> simp only [quW] at H <;> try exact H.elim
  case move x =>
    exact ⟨_, _, ρ' x, H, allF_nil, fun u hu => (hρ _ _ hu).symm, fun h' _ => rfl⟩
  case assign x =>
    exact ⟨_, _, ρ' x, H, allF_nil, fun u hu => (hρ _ _ hu).symm, fun h' _ => rfl⟩
  case pick c a b =>
    unfold pickW at H
    split at H
    · rename_i t hc
      have hc' := hρ _ _ hc
      split at H
      · rename_i x y ha hb
        refine ⟨_, _, _, H, allF_nil, agrees_some _, fun h' _ => ?_⟩
        simp only [execOp, hc', hρ _ _ ha, hρ _ _ hb, semR_bind', asBool, semR_pure]
        cases t <;> rfl
      · rename_i a' b' _
        cases t with
        | true =>
          refine ⟨_, _, ρ' a, H, allF_nil, fun u hu => (hρ _ _ hu).symm, fun h' _ => ?_⟩
          simp only [execOp, hc', semR_bind', asBool, semR_pure, if_true]
        | false =>
          refine ⟨_, _, ρ' b, H, allF_nil, fun u hu => (hρ _ _ hu).symm, fun h' _ => ?_⟩
          simp only [execOp, hc', semR_bind', asBool, semR_pure, Bool.false_eq_true, if_false]
    · exact H.elim
  case build t ps =>
    unfold eP at H
    split at H
    · rename_i vs hvs
      obtain ⟨v, h1, h2⟩ := e1_some H
      refine ⟨_, _, v, h2, allF_nil, agrees_some _, fun h' _ => ?_⟩
      have h3 := evP_eq hρ _ _ hvs
      simp only [execOp, semR_bind', semR_pure]
      refine bldV_sound (v := v) ?_ rfl
      rw [Array.toList_map]
      rw [h3]
      exact h1
    · exact H.elim
  case load t a =>
    obtain ⟨p, h1, H⟩ := e1_some H
    obtain ⟨ad, rfl, H⟩ := adW_some H
    obtain ⟨v, fs, h2, h3, h4⟩ := ldF_spec H
    refine ⟨_, _, v, h2, h3, agrees_some _, fun h' hf => ?_⟩
    simp only [execOp, hρ _ _ h1, Instr.loadAt, Instr.sureAddr, semR_bind', semR_pure]
    exact h4 h' hf _ rfl
  case nilCheck x =>
    obtain ⟨v, h1, H⟩ := e1_some H
    unfold nilV at H
    split at H
    · rename_i p
      obtain ⟨a, rfl, H⟩ := H
      refine ⟨_, _, _, H, allF_nil, agrees_some _, fun h' _ => ?_⟩
      simp only [execOp, hρ _ _ h1, semR_pure]
    · refine ⟨_, _, _, H, allF_nil, agrees_some _, fun h' _ => ?_⟩
      simp only [execOp, hρ _ _ h1, semR_pure]
    · exact H.elim
  case binOp op t x y u =>
    obtain ⟨a, h1, H⟩ := e1_some H
    obtain ⟨b, h2, H⟩ := e1_some H
    obtain ⟨v, hv, hb⟩ := binW_det H
    refine ⟨_, _, v, hv, allF_nil, agrees_some _, fun h' _ => ?_⟩
    simp only [execOp, hρ _ _ h1, hρ _ _ h2]
    rw [semR_bind']
    exact binW_sound (hb (fun w => w = v) rfl) fun w hw => by rw [hw]; rfl
  case unOp op t x =>
    obtain ⟨a, h1, H⟩ := e1_some H
    obtain ⟨v, hv, hb⟩ := unW_det H
    refine ⟨_, _, v, hv, allF_nil, agrees_some _, fun h' _ => ?_⟩
    simp only [execOp, hρ _ _ h1]
    rw [semR_bind']
    exact unW_sound (hb (fun w => w = v) rfl) fun w hw => by rw [hw]; rfl
  case convert s d x =>
    obtain ⟨a, h1, H⟩ := e1_some H
    obtain ⟨v, fs, h2, h3, h4⟩ := cvF_spec H
    refine ⟨_, _, v, h2, h3, agrees_some _, fun h' hf => ?_⟩
    simp only [execOp, hρ _ _ h1]
    rw [semR_bind']
    exact h4 h' hf _ rfl
  case makeFunc fn f c =>
    obtain ⟨fv, h1, H⟩ := eL_some H
    obtain ⟨cv, h2, H⟩ := eL_some H
    refine ⟨_, _, _, H, allF_nil, agrees_some _, fun h' _ => ?_⟩
    have h3 := evL_eq hρ _ _ h1
    have h4 := evL_eq hρ _ _ h2
    have e1 : f.map ρ' = fv.toArray := by rw [← h3, ← Array.toList_map]
    have e2 : c.map ρ' = cv.toArray := by rw [← h4, ← Array.toList_map]
    simp only [execOp, Instr.makeFunc, e1, e2]
    rfl
  case slice t x lo hi mx =>
    cases mx with
    | some m => exact H.elim
    | none =>
      obtain ⟨a, h1, H⟩ := e1_some H
      have H := eO_some (eO_some H hρ) hρ
      obtain ⟨v, hv, hb⟩ := slW_det H
      refine ⟨_, _, v, hv, allF_nil, agrees_some _, fun h' _ => ?_⟩
      simp only [execOp, hρ _ _ h1]
      rw [semR_bind']
      exact slW_sound (hb (fun w => w = v) rfl) fun w hw => by rw [hw]; rfl
  case fieldAddr t x f =>
    obtain ⟨p, h1, H1⟩ := e1_some H
    obtain ⟨ad, rfl, H2⟩ := adW_some H1
    obtain ⟨v, hv, hb⟩ := fldW_det H2
    refine ⟨_, _, v, hv, allF_nil, agrees_some _, fun h' _ => ?_⟩
    simp only [execOp, hρ _ _ h1]
    rw [semR_bind']
    exact fldW_sound (hb (fun w => w = v) rfl) fun w hw => by rw [hw]; rfl
  case field t x f =>
    obtain ⟨a, h1, H⟩ := e1_some H
    obtain ⟨v, hv, hb⟩ := fieldW_det H
    refine ⟨_, _, v, hv, allF_nil, agrees_some _, fun h' _ => ?_⟩
    simp only [execOp, hρ _ _ h1]
    rw [semR_bind']
    exact fieldW_sound (hb (fun w => w = v) rfl) fun w hw => by rw [hw]; rfl
  case indexAddr t x i =>
    obtain ⟨a, h1, H⟩ := e1_some H
    obtain ⟨b, h2, H⟩ := e1_some H
    obtain ⟨v, hv, hb⟩ := ixW_det H
    refine ⟨_, _, v, hv, allF_nil, agrees_some _, fun h' _ => ?_⟩
    simp only [execOp, hρ _ _ h1, hρ _ _ h2]
    rw [semR_bind']
    exact ixW_sound (hb (fun w => w = v) rfl) fun w hw => by rw [hw]; rfl
  case index t x i =>
    obtain ⟨a, h1, H⟩ := e1_some H
    obtain ⟨b, h2, H⟩ := e1_some H
    obtain ⟨v, hv, hb⟩ := indexW_det H
    refine ⟨_, _, v, hv, allF_nil, agrees_some _, fun h' _ => ?_⟩
    simp only [execOp, hρ _ _ h1, hρ _ _ h2]
    rw [semR_bind']
    exact indexW_sound (hb (fun w => w = v) rfl) fun w hw => by rw [hw]; rfl
  case lookup t m k ok =>
    obtain ⟨a, h1, H⟩ := e1_some H
    obtain ⟨b, h2, H⟩ := e1_some H
    obtain ⟨v, fs, g1, g2, g3⟩ := lookF_spec H
    refine ⟨_, _, v, g1, g2, agrees_some _, fun h' hf => ?_⟩
    simp only [execOp, hρ _ _ h1, hρ _ _ h2]
    rw [semR_bind']
    exact g3 h' hf _ rfl
  case extract x i =>
    obtain ⟨a, h1, H⟩ := e1_some H
    unfold extV at H
    split at H
    · rename_i vs
      obtain ⟨v, h2, h3⟩ := e1_some H
      refine ⟨_, _, v, h3, allF_nil, agrees_some _, fun h' _ => ?_⟩
      simp only [execOp, hρ _ _ h1, Instr.extract, h2]
      rfl
    · exact H.elim
  case call c =>
    obtain ⟨callee, args, ts⟩ := c
    cases callee <;> simp only [quW] at H <;> try exact H.elim
    rename_i b
    obtain ⟨as, h1, H1⟩ := eL_some H
    clear H
    have h3 := evL_eq hρ _ _ h1
    have e1 : args.map ρ' = as.toArray := by rw [← h3, ← Array.toList_map]
    unfold quB at H1
    split at H1
    · rename_i x t ht
      obtain ⟨v, fs, g1, g2, g3⟩ := lenF_spec (ty := type) ht H1
      refine ⟨_, _, v, g1, g2, agrees_some _, fun h' hf => ?_⟩
      simp only [execOp, resolve, e1, semR_bind', semR_pure, invoke, builtin]
      exact g3 h' hf _ rfl
    · rename_i x t ht
      obtain ⟨v, hv, hb⟩ := capV_det H1
      refine ⟨_, _, v, hv, allF_nil, agrees_some _, fun h' _ => ?_⟩
      simp only [execOp, resolve, e1, semR_bind', semR_pure, invoke, builtin]
      exact capV_sound ht (hb (fun w => w = v) rfl) fun w hw => by rw [hw]
    · rename_i x y o
      obtain ⟨v, hv, hb⟩ := minV_det H1
      refine ⟨_, _, v, hv, allF_nil, agrees_some _, fun h' _ => ?_⟩
      simp only [execOp, resolve, e1, semR_bind', semR_pure, invoke, builtin]
      exact minV_sound (hb (fun w => w = v) rfl) fun w hw => by rw [hw]
    · rename_i x y o
      obtain ⟨v, hv, hb⟩ := maxV_det H1
      refine ⟨_, _, v, hv, allF_nil, agrees_some _, fun h' _ => ?_⟩
      simp only [execOp, resolve, e1, semR_bind', semR_pure, invoke, builtin]
      exact maxV_sound (hb (fun w => w = v) rfl) fun w hw => by rw [hw]
    · rename_i x y z o
      obtain ⟨v, hv, hb⟩ := min3V_det H1
      refine ⟨_, _, v, hv, allF_nil, agrees_some _, fun h' _ => ?_⟩
      simp only [execOp, resolve, e1, semR_bind', semR_pure, invoke, builtin]
      exact min3V_sound (hb (fun w => w = v) rfl) fun w hw => by rw [hw]
    · rename_i x y z o
      obtain ⟨v, hv, hb⟩ := max3V_det H1
      refine ⟨_, _, v, hv, allF_nil, agrees_some _, fun h' _ => ?_⟩
      simp only [execOp, resolve, e1, semR_bind', semR_pure, invoke, builtin]
      exact max3V_sound (hb (fun w => w = v) rfl) fun w hw => by rw [hw]
    · exact H1.elim
end
end Go.Lift
namespace Go.Lift

def IterOf (h : Hp) (r : Option Nat) (o : Obj) : Prop :=
  (r = none ∧ o = .mapIter none 0 #[] 0) ∨ ∃ m es clock, r = some m ∧ h[m]? = some (.map es clock) ∧ o = .mapIter (some m) clock #[] clock
def rangeW (P : Program) (t : TypeId) (x : Value) (h : Hp) (K : Value → Hp → Prop) : Prop :=
  match P.underlying t, x with
  | some (.map _ _), .map r => ∃ o, IterOf h r o ∧ K (.pointer (some ⟨h.size, 0, none⟩)) (h.push o)
  | _, _ => False
/-- What the iterator's next step may do: it is over, or an entry not yet seen comes. -/
inductive IterEnd (h : Hp) : Obj → Prop
  | nil (a : Nat) (b : Array Nat) (c : Nat) : IterEnd h (.mapIter none a b c)
  | over (m since : Nat) (seen : Array Nat) (last : Nat) (es : Array MapEntry) (clock : Nat) : h[m]? = some (.map es clock) →
      ((es.filter fun e => !seen.contains e.born).filter (·.born < since)).isEmpty = true → IterEnd h (.mapIter (some m) since seen last)
inductive IterStep (h : Hp) : Obj → Value → Value → Obj → Prop
  | step (m since : Nat) (seen : Array Nat) (last : Nat) (es : Array MapEntry) (clock : Nat) (e : MapEntry) : h[m]? = some (.map es clock) → e ∈ es.filter (fun e => !seen.contains e.born) →
      IterStep h (.mapIter (some m) since seen last) e.key e.val (.mapIter (some m) since (seen.push e.born) clock)
inductive IterGood (h : Hp) : Obj → Prop
  | nil (a : Nat) (b : Array Nat) (c : Nat) : IterGood h (.mapIter none a b c)
  | good (m since : Nat) (seen : Array Nat) (last : Nat) (es : Array MapEntry) (clock : Nat) : h[m]? = some (.map es clock) →
      (!seen.isEmpty && !es.isEmpty && es.all (·.born ≥ last)) = false → IterGood h (.mapIter (some m) since seen last)
def nextW (h : Hp) (a : Addr) (K : Value → Hp → Prop) : Prop :=
  a.off = 0 ∧ ∃ o, h[a.block]? = some o ∧ IterGood h o ∧ (IterEnd h o → K (.tuple #[.bool false]) h) ∧
    ∀ k v o', IterStep h o k v o' → K (.tuple #[.bool true, k, v]) (h.setIfInBounds a.block o')
def entryW (h : Hp) (a : Addr) (kt vt : Ty) (K : Value → Prop) : Prop :=
  a.off = 0 ∧ ∃ m since seen stamp es clock e, h[a.block]? = some (.mapIter (some m) since seen clock) ∧ seen.back? = some stamp ∧ h[m]? = some (.map es clock) ∧ es.find? (·.born == stamp) = some e ∧
    exT kt fun k => e.key = k ∧ exT vt fun v => e.val = v ∧ K (.tuple #[k, v])

def cpHp (h : Hp) (b : Option Addr) (new : List Value) : Hp := match b with | some a => wrs h a 0 new | none => h
def cpOk (h : Hp) (b : Option Addr) (m : Nat) (new : List Value) : Prop := new.length = m ∧ (∀ v ∈ new, oneCell v = true) ∧ ∀ a, b = some a → stOk h a m
def copyW (P : Program) (t : TypeId) (d s : Value) (h : Hp) (K : Value → Hp → Prop) : Prop :=
  match P.underlying t, d with
  | some (.slice e), .slice b n _ => match szOf P e with
    | some sz => match s with
      | .slice c m _ => ∃ new, cellsAt h c (Nat.min m n * sz) new ∧ cpOk h b (Nat.min m n * sz) new ∧ K (.int .i64 (Nat.min m n : Nat)) (cpHp h b new)
      | .string u => sz = 1 ∧ cpOk h b (Nat.min u.size n) ((strCells u).take (Nat.min u.size n)) ∧ K (.int .i64 (Nat.min u.size n : Nat)) (cpHp h b ((strCells u).take (Nat.min u.size n)))
      | _ => False
    | none => False
  | _, _ => False
def clearW (P : Program) (t : TypeId) (s : Value) (h : Hp) (K : Hp → Prop) : Prop :=
  match P.underlying t, s with
  | some (.slice e), .slice b n _ => match zeroOf P e with
    | some _ => ((zc P e).toList.all oneCell = true ∧ ∀ a, b = some a → stOk h a (n * (zc P e).size)) ∧ K (cpHp h (if n = 0 then none else b) (Builtin.zeroCells (zc P e) n).toList)
    | none => False
  | _, _ => False
def s2bW (P : Program) (src dst : TypeId) (x : Value) (h : Hp) (K : Value → Hp → Prop) : Prop :=
  match P.underlying src, P.underlying dst, x with
  | some .string, some (.slice e), .string s => match P.underlying e with
    | some (.int .u8) => ∀ cap, s.size ≤ cap → K (.slice (some ⟨h.size, 0, none⟩) s.size cap)
        (h.push (.cells ((strCells s).toArray ++ Array.replicate (cap - s.size) (.int .u8 0)) e (((strCells s).toArray ++ Array.replicate (cap - s.size) (Value.int .u8 0)).size, ((strCells s).toArray ++ Array.replicate (cap - s.size) (Value.int .u8 0)).size + 1)))
    | _ => False
  | _, _, _ => False
def loB (P : Program) (b : Builtin) (as : List Value) (ts : Array TypeId) (h : Hp) (K : Value → Hp → Prop) : Prop :=
  match b, as, ts.toList with
  | .append, [s, x], [t, u] => match P.underlying u with
    | some (.int _) => appZW P t s x h K
    | some _ => appW P t s x h K
    | none => False
  | .copy, [d, s], t :: _ => copyW P t d s h K
  | .delete, [m, k], t :: _ => delW P t m k h fun h' => K undef h'
  | .clear, [s], t :: _ => clearW P t s h fun h' => K undef h'
  | _, _, _ => False
abbrev Hints := Nat → List Ty
def hintOf (hs : Hints) (d : Option Tmp) : Ty × Ty :=
  match d with
  | some d => match hs d with | [k, v] => (k, v) | _ => (.c .any, .c .any)
  | none => (.c .any, .c .any)
def fnW (D : Prop) (P : Program) (f : Value) (as : List Value) (t : TypeId) (h : Hp) (K : Option Value → Hp → Prop) : Prop :=
  match f with
  | .func (.func i) first caps => FnD D P i ((first ++ as.toArray) ++ caps) h fun vs h' => exTs (resTys P t) fun ts => vs = ts ∧ K (some (packR ts)) h'
  | _ => False
def mkMapOk : Option Operand → Bool | none => true | some (.const (.int _ _)) => true | _ => false

def louW (D : Prop) (P : Program) (hs : Hints) (o : Oper) (ρ : Fr) (h : Hp) (K : Option Value → Hp → Prop) : Prop :=
  match o.op with
  | .alloc t => alW P t h fun v h' => K (some v) h'
  | .box t x => e1 (ev ρ x) fun v => K (some (.pointer (some ⟨h.size, 0, none⟩))) (h.push (.cells v.cells t))
  | .buildSlice t n ps => eP ρ ps.toList fun vs => bsW P t n vs h fun v h' => K (some v) h'
  | .store t a x => e1 (ev ρ a) fun p => adW p fun ad => e1 (ev ρ x) fun v => stW P t ad v h fun h' => K none h'
  | .makeMap t r => match P.underlying t, mkMapOk r with
    | some (.map _ _), true => K (some (.map (some h.size))) (h.push (.map #[] 0))
    | _, _ => False
  | .makeSlice t l c => e1 (ev ρ l) fun lv => e1 (ev ρ c) fun cv => mkW P t lv cv h fun v h' => K (some v) h'
  | .mapUpdate t m k x => e1 (ev ρ m) fun mv => e1 (ev ρ k) fun kv => e1 (ev ρ x) fun xv => mupW P t mv kv xv h fun h' => K none h'
  | .insert t m k x => e1 (ev ρ m) fun mv => e1 (ev ρ k) fun kv => e1 (ev ρ x) fun xv => mupW P t mv kv xv h fun h' => K none h'
  | .mapEntry t m k => e1 (ev ρ m) fun mv => e1 (ev ρ k) fun kv => mentW P t mv kv h fun v h' => K (some v) h'
  | .entryStore _ m s x => e1 (ev ρ m) fun mv => e1 (ev ρ s) fun sv => e1 (ev ρ x) fun xv => mstoW mv sv xv h fun h' => K none h'
  | .range t x => e1 (ev ρ x) fun v => rangeW P t v h fun u h' => K (some u) h'
  | .next it false => e1 (ev ρ it) fun p => adW p fun ad => nextW h ad fun v h' => K (some v) h'
  | .entry it => e1 (ev ρ it) fun p => adW p fun ad => entryW h ad (hintOf hs o.dst).1 (hintOf hs o.dst).2 fun v => K (some v) h
  | .convert s d x => e1 (ev ρ x) fun v => s2bW P s d v h fun u h' => K (some u) h'
  | .slice t x (some l) (some u) (some m) => e1 (ev ρ x) fun v => e1 (ev ρ l) fun lv => e1 (ev ρ u) fun uv => e1 (ev ρ m) fun mv => sl3W P t v lv uv mv fun r => K (some r) h
  | .call { callee := .builtin b, args, argTypes } => eL (evL ρ args.toList) fun as => loB P b as argTypes h fun v h' => K (some v) h'
  | .call { callee := .value f, args, argTypes := _ } => e1 (ev ρ f) fun fv => eL (evL ρ args.toList) fun as => fnW D P fv as o.type h K
  | _ => False

section
variable {P : Program} {h : Hp}
theorem storeCells_cp {b : Option Addr} {m : Nat} {new : List Value} (H : cpOk h b m new) {K : Unit → Hp → Prop} (HK : K () (cpHp h b new)) : ∀ a, b = some a → semW P (storeCells a new) h K := by
  rintro a rfl
  obtain ⟨h1, h2, h3⟩ := H
  refine storeCells_sound a new 0 h K (by simpa using h2) (fun j _ hj => h3 a rfl j (by omega)) HK
theorem copyW_sound {t ty : TypeId} {ts : Array TypeId} {u : TypeId} {l : List TypeId} (hts : ts.toList = t :: l) {d s : Value} {K : Value → Hp → Prop} (H : copyW P t d s h K) : semW P (Builtin.copy_ ts ty #[d, s]) h K := by
  have hts0 : ts[0]? = some t := by rw [← Array.getElem?_toList, hts]; rfl
  unfold copyW at H
  split at H
  · rename_i e b n c ht
    split at H
    · rename_i sz hsz
      unfold Builtin.copy_
      simp only [hts0, List.getElem?_toArray, List.getElem?_cons_zero, List.getElem?_cons_succ, semW_bind', semW_underlying]
      refine ⟨_, ht, ?_⟩
      split at H
      · rename_i c' m cc
        obtain ⟨new, h1, h2, h3⟩ := H
        simp only [semW_bind', Builtin.lenOf, semW_pure, semW_sizeOf]
        refine ⟨sz, hsz, ?_⟩
        refine firstCells_sound h1 _ ?_
        have key := storeCells_cp (P := P) h2 (K := fun _ h' => K (.int .i64 (Nat.min m n : Nat)) h') h3
        cases b with
        | none => exact h3
        | some a =>
          simp only [semW_bind']
          refine semW_mono _ (fun _ h' hk => ?_) h (key a rfl)
          exact hk
      · rename_i s'
        obtain ⟨h1, h2, h3⟩ := H
        subst h1
        simp only [semW_bind', Builtin.lenOf, semW_pure, semW_sizeOf]
        refine ⟨1, hsz, ?_⟩
        simp only [Builtin.firstCells, semW_pure]
        have e : ((s'.extract 0 (Nat.min s'.size n)).data.map fun b => Value.int .u8 (b.toNat : Int)).toList = (strCells s').take (Nat.min s'.size n) := by
          simp only [strCells, Array.toList_map]
          rw [← List.map_take]
          congr 1
          show (s'.extract 0 (Nat.min s'.size n)).data.toList = _
          simp
        have key := storeCells_cp (P := P) h2 (K := fun _ h' => K (.int .i64 (Nat.min s'.size n : Nat)) h') h3
        cases b with
        | none => exact h3
        | some a =>
          simp only [semW_bind', e]
          refine semW_mono _ (fun _ h' hk => ?_) h (key a rfl)
          exact hk
      · exact H.elim
    · exact H.elim
  · exact H.elim
theorem clearW_sound {t ty : TypeId} {ts : Array TypeId} {l : List TypeId} (hts : ts.toList = t :: l) {s : Value} {K : Hp → Prop} {K' : Value → Hp → Prop} (H : clearW P t s h K) (HK : ∀ h', K h' → K' undef h') : semW P (Builtin.clear_ ts ty #[s]) h K' := by
  have hts0 : ts[0]? = some t := by rw [← Array.getElem?_toList, hts]; rfl
  unfold clearW at H
  split at H
  · rename_i e b n c ht
    split at H
    · rename_i z hz
      obtain ⟨⟨h1, h2⟩, h3⟩ := H
      unfold Builtin.clear_
      simp only [hts0, List.getElem?_toArray, List.getElem?_cons_zero, semW_bind', semW_underlying]
      refine ⟨_, ht, ?_⟩
      cases b with
      | none =>
        have h3' : K h := by
          have : (if n = 0 then (none : Option Addr) else none) = none := by split <;> rfl
          rw [this] at h3; exact h3
        simp only [semW_pure]
        exact HK _ h3'
      | some a =>
        cases n with
        | zero => simp only [semW_pure]; exact HK _ h3
        | succ n =>
          simp only [semW_bind', semW_zeroValue]
          refine ⟨z, hz, ?_⟩
          simp only [zc, hz] at h1 h2 h3
          have hl : (Builtin.zeroCells z.cells (n + 1)).toList.length = (n + 1) * z.cells.size := by simp [Builtin.zeroCells]
          refine storeCells_sound a _ 0 h _ ?_ (fun j _ hj => h2 a rfl j (by omega)) ?_
          · rw [List.all_eq_true]
            intro v hv
            simp only [Builtin.zeroCells, Array.toList_map, List.mem_map] at hv
            obtain ⟨i, hi, rfl⟩ := hv
            have hlt : i < (n + 1) * z.cells.size := by simpa using hi
            have hpos : 0 < z.cells.size := by
              rcases Nat.eq_zero_or_pos z.cells.size with h0 | h0
              · rw [h0] at hlt; simp at hlt
              · exact h0
            have hm : i % z.cells.size < z.cells.size := Nat.mod_lt _ hpos
            rw [getElem!_pos z.cells _ hm]
            exact (List.all_eq_true.1 h1) _ (by simp)
          · simp only [semW_pure]
            exact HK _ h3
    · exact H.elim
  · exact H.elim
theorem s2bW_sound {src dst : TypeId} {x : Value} {K : Value → Hp → Prop} (H : s2bW P src dst x h K) : semW P (convert src dst x) h K := by
  unfold s2bW at H
  split at H
  · rename_i e s h1 h2
    split at H
    · rename_i h3
      unfold convert
      simp only [semW_bind', semW_underlying]
      refine ⟨_, h1, _, h2, ?_⟩
      simp only [semW_bind', semW_underlying]
      refine ⟨_, h3, ?_⟩
      unfold Conv.stringToBytes
      simp only [semW_bind', semW_choose]
      refine ⟨fun hf => by simp [Question.forced] at hf, fun _ tt => ?_⟩
      have hle := appendCap_cut s.size 0 e tt
      generalize (Question.appendCap s.size 0 e).cut tt = cap at hle
      have hK := H cap hle
      have e1 : (Array.map (fun b : UInt8 => Value.int .u8 (b.toNat : Int)) s.data) = (strCells s).toArray := by
        rw [strCells, ← Array.toList_map]
      rw [e1]
      generalize (strCells s).toArray ++ Array.replicate (cap - s.size) (Value.int .u8 0) = cs at hK
      simp only [semW_newRow, markStringish, semW_bind', semW_shape]
      have e2 : shp (Array.push h (.cells cs e)) h.size = some (e, cs.size) := by simp [shp]
      rw [e2]
      simp only [semW_freeze, semW_pure]
      have e3 : frzHp (Array.push h (.cells cs e)) { block := h.size, off := cs.size } 1 = Array.push h (.cells cs e (cs.size, cs.size + 1)) := by
        unfold frzHp
        simp only [Nat.one_ne_zero, if_false]
        apply Array.ext
        · simp
        · intro i hi1 hi2
          simp only [Array.getElem_modify]
          by_cases hi : i = h.size
          · subst hi; simp
          · have : i < h.size := by simp at hi2; omega
            simp [Array.getElem_push, this, Ne.symm hi]
      rw [e3]
      exact hK
    · exact H.elim
  · exact H.elim
theorem rangeW_sound {t : TypeId} {x : Value} {K : Value → Hp → Prop} (H : rangeW P t x h K) : semW P (Instr.range t x) h K := by
  unfold rangeW at H
  split at H
  · rename_i k e r ht
    obtain ⟨o, h1, h2⟩ := H
    unfold Instr.range
    simp only [semW_bind', semW_underlying]
    refine ⟨_, ht, ?_⟩
    rcases h1 with ⟨rfl, rfl⟩ | ⟨m, es, clock, rfl, h1, rfl⟩
    · simp only [semW_bind', semW_pure, semW_newObj]
      exact h2
    · simp only [semW_bind', semW_getObj]
      refine ⟨_, h1, rfl, ?_⟩
      simp only [semW_bind', semW_pure, semW_newObj]
      exact h2
  · exact H.elim
theorem nextW_sound {a : Addr} {ty : TypeId} {K : Value → Hp → Prop} (H : nextW h a K) : semW P (Instr.next (.pointer (some a)) false ty) h K := by
  obtain ⟨h0, o, h1, h2, h3, h4⟩ := H
  obtain ⟨b, off, spot⟩ := a
  simp only at h0 h1
  subst h0
  unfold Instr.next
  simp only [semW_bind', semW_getObj]
  cases h2 with
  | nil x y z =>
    refine ⟨_, h1, rfl, ?_⟩
    simp only [semW_pure]
    exact h3 (.nil _ _ _)
  | good m since seen last es clock g1 g2 =>
    refine ⟨_, h1, rfl, ?_⟩
    simp only [semW_bind', semW_getObj]
    refine ⟨_, g1, rfl, ?_⟩
    simp only [g2, Bool.false_eq_true, if_false]
    simp only [semW_bind', semW_choose]
    have key : ∀ n : Nat, n < ((if ((es.filter fun e => !seen.contains e.born).filter (·.born < since)).isEmpty then #[none] else #[]) ++
        ((es.filter fun e => !seen.contains e.born).filter (·.born < since) ++ (es.filter fun e => !seen.contains e.born).filter (·.born ≥ since)).map some : Array (Option MapEntry)).size →
        semW P (match ((if ((es.filter fun e => !seen.contains e.born).filter (·.born < since)).isEmpty then #[none] else #[]) ++
        ((es.filter fun e => !seen.contains e.born).filter (·.born < since) ++ (es.filter fun e => !seen.contains e.born).filter (·.born ≥ since)).map some : Array (Option MapEntry))[n]? with
        | some (some e) => do
          setObj b (.mapIter (some m) since (seen.push e.born) clock)
          pure (.tuple #[.bool true, e.key, e.val])
        | some none => pure (.tuple #[.bool false])
        | none => stuck "Next: no such candidate") h K := by
      intro n hn
      generalize hc : ((if ((es.filter fun e => !seen.contains e.born).filter (·.born < since)).isEmpty then #[none] else #[]) ++
        ((es.filter fun e => !seen.contains e.born).filter (·.born < since) ++ (es.filter fun e => !seen.contains e.born).filter (·.born ≥ since)).map some : Array (Option MapEntry)) = cands at hn ⊢
      rw [Array.getElem?_eq_getElem hn]
      have hmem : cands[n] ∈ cands := Array.getElem_mem hn
      cases hx : cands[n] with
      | none =>
        rw [hx, ← hc] at hmem
        simp only [semW_pure]
        refine h3 (.over m since seen last es clock g1 ?_)
        rcases Array.mem_append.1 hmem with h5 | h5
        · split at h5
          · rename_i h6; exact h6
          · simp at h5
        · simp at h5
      | some e =>
        rw [hx, ← hc] at hmem
        simp only [semW_bind', semW_setObj, semW_pure]
        refine ⟨⟨_, h1, rfl⟩, ?_⟩
        refine h4 _ _ _ (.step m since seen last es clock e g1 ?_)
        rcases Array.mem_append.1 hmem with h5 | h5
        · split at h5 <;> simp at h5
        · rw [Array.mem_map] at h5
          obtain ⟨e', h6, h7⟩ := h5
          simp at h7
          subst h7
          rcases Array.mem_append.1 h6 with h8 | h8
          · exact (Array.mem_filter.1 h8).1
          · exact (Array.mem_filter.1 h8).1
    refine ⟨fun hf => ?_, fun hf tt => ?_⟩
    · refine key 0 ?_
      by_cases h5 : ((es.filter fun e => !seen.contains e.born).filter (·.born < since)).isEmpty = true
      · rw [if_pos h5]; simp; omega
      · rw [if_neg h5]
        simp only [Array.isEmpty_iff_size_eq_zero] at h5
        simp only [Array.size_append, Array.size_map]
        omega
    · refine key _ ?_
      simp only [Question.cut]
      exact Nat.mod_lt _ (by simp [Question.forced] at hf ⊢; omega)
theorem entryW_sound {a : Addr} {kt vt : Ty} {K : Value → Prop} {K' : Value → Hp → Prop} (H : entryW h a kt vt K) (HK : ∀ v, K v → K' v h) : semW P (Instr.entry (.pointer (some a))) h K' := by
  obtain ⟨h0, m, since, seen, stamp, es, clock, e, h1, h2, h3, h4, h5⟩ := H
  obtain ⟨k, h6, h7⟩ := exT_ex h5
  obtain ⟨v, h8, h9⟩ := exT_ex h7
  obtain ⟨b, off, spot⟩ := a
  simp only at h0 h1
  subst h0
  unfold Instr.entry
  simp only [semW_bind', semW_getObj]
  refine ⟨_, h1, rfl, ?_⟩
  simp only [h2, semW_bind', semW_getObj]
  refine ⟨_, h3, rfl, ?_⟩
  simp only [bne_self_eq_false, Bool.false_eq_true, if_false, h4, semW_pure]
  subst h6 h8
  exact HK _ h9
end
end Go.Lift

/- The loud operations; one operation's rule; soundness. -/
import Derived.Test.YtgmbhlfecbpclacGreatDoorLvG
set_option linter.unusedSimpArgs false
set_option linter.unusedVariables false
namespace Go.Lift

def IterOf (h : Hp) (r : Option Nat) (o : Obj) : Prop :=
  (r = none ∧ o = .mapIter none 0 #[] 0) ∨ ∃ m es clock, r = some m ∧ h[m]? = some (.map es clock) ∧ o = .mapIter (some m) clock #[] clock
def rangeW (P : Program) (t : TypeId) (x : Value) (h : Hp) (K : Value → Hp → Prop) : Prop :=
  match P.underlying t, x with
  | some (.map _ _), .map r => ∃ o, IterOf h r o ∧ K (.pointer (some ⟨h.size, 0, none⟩)) (h.push o)
  | _, _ => False
/-- What the iterator's next step may do: it is over, or an entry not yet seen comes. -/
inductive IterEnd (h : Hp) : Obj → Prop
  | nil (a : Nat) (b : Array Nat) (c : Nat) : IterEnd h (.mapIter none a b c)
  | over (m since : Nat) (seen : Array Nat) (last : Nat) (es : Array MapEntry) (clock : Nat) : h[m]? = some (.map es clock) →
      ((es.filter fun e => !seen.contains e.born).filter (·.born < since)).isEmpty = true → IterEnd h (.mapIter (some m) since seen last)
inductive IterStep (h : Hp) : Obj → Value → Value → Obj → Prop
  | step (m since : Nat) (seen : Array Nat) (last : Nat) (es : Array MapEntry) (clock : Nat) (e : MapEntry) : h[m]? = some (.map es clock) → e ∈ es.filter (fun e => !seen.contains e.born) →
      IterStep h (.mapIter (some m) since seen last) e.key e.val (.mapIter (some m) since (seen.push e.born) clock)
inductive IterGood (h : Hp) : Obj → Prop
  | nil (a : Nat) (b : Array Nat) (c : Nat) : IterGood h (.mapIter none a b c)
  | good (m since : Nat) (seen : Array Nat) (last : Nat) (es : Array MapEntry) (clock : Nat) : h[m]? = some (.map es clock) →
      (!seen.isEmpty && !es.isEmpty && es.all (·.born ≥ last)) = false → IterGood h (.mapIter (some m) since seen last)
def nextW (h : Hp) (a : Addr) (K : Value → Hp → Prop) : Prop :=
  a.off = 0 ∧ ∃ o, h[a.block]? = some o ∧ IterGood h o ∧ (IterEnd h o → K (.tuple #[.bool false]) h) ∧
    ∀ k v o', IterStep h o k v o' → K (.tuple #[.bool true, k, v]) (h.setIfInBounds a.block o')
def entryW (h : Hp) (a : Addr) (kt vt : Ty) (K : Value → Prop) : Prop :=
  a.off = 0 ∧ ∃ m since seen stamp es clock e, h[a.block]? = some (.mapIter (some m) since seen clock) ∧ seen.back? = some stamp ∧ h[m]? = some (.map es clock) ∧ es.find? (·.born == stamp) = some e ∧
    exT kt fun k => e.key = k ∧ exT vt fun v => e.val = v ∧ K (.tuple #[k, v])

def cpHp (h : Hp) (b : Option Addr) (new : List Value) : Hp := match b with | some a => wrs h a 0 new | none => h
def cpOk (h : Hp) (b : Option Addr) (m : Nat) (new : List Value) : Prop := new.length = m ∧ (∀ v ∈ new, oneCell v = true) ∧ ∀ a, b = some a → stOk h a m
def copyW (P : Program) (t : TypeId) (d s : Value) (h : Hp) (K : Value → Hp → Prop) : Prop :=
  match P.underlying t, d with
  | some (.slice e), .slice b n _ => match szOf P e with
    | some sz => match s with
      | .slice c m _ => ∃ new, cellsAt h c (Nat.min m n * sz) new ∧ cpOk h b (Nat.min m n * sz) new ∧ K (.int .i64 (Nat.min m n : Nat)) (cpHp h b new)
      | .string u => sz = 1 ∧ cpOk h b (Nat.min u.size n) ((strCells u).take (Nat.min u.size n)) ∧ K (.int .i64 (Nat.min u.size n : Nat)) (cpHp h b ((strCells u).take (Nat.min u.size n)))
      | _ => False
    | none => False
  | _, _ => False
def clearW (P : Program) (t : TypeId) (s : Value) (h : Hp) (K : Hp → Prop) : Prop :=
  match P.underlying t, s with
  | some (.slice e), .slice b n _ => match zeroOf P e with
    | some _ => ((zc P e).toList.all oneCell = true ∧ ∀ a, b = some a → stOk h a (n * (zc P e).size)) ∧ K (cpHp h (if n = 0 then none else b) (Builtin.zeroCells (zc P e) n).toList)
    | none => False
  | _, _ => False
def s2bW (P : Program) (src dst : TypeId) (x : Value) (h : Hp) (K : Value → Hp → Prop) : Prop :=
  match P.underlying src, P.underlying dst, x with
  | some .string, some (.slice e), .string s => match P.underlying e with
    | some (.int .u8) => ∀ cap, s.size ≤ cap → K (.slice (some ⟨h.size, 0, none⟩) s.size cap)
        (h.push (.cells ((strCells s).toArray ++ Array.replicate (cap - s.size) (.int .u8 0)) e (((strCells s).toArray ++ Array.replicate (cap - s.size) (Value.int .u8 0)).size, ((strCells s).toArray ++ Array.replicate (cap - s.size) (Value.int .u8 0)).size + 1)))
    | _ => False
  | _, _, _ => False
def loB (P : Program) (b : Builtin) (as : List Value) (ts : Array TypeId) (h : Hp) (K : Value → Hp → Prop) : Prop :=
  match b, as, ts.toList with
  | .append, [s, x], [t, u] => match P.underlying u with
    | some (.int _) => appZW P t s x h K
    | some _ => appW P t s x h K
    | none => False
  | .copy, [d, s], t :: _ => copyW P t d s h K
  | .delete, [m, k], t :: _ => delW P t m k h fun h' => K undef h'
  | .clear, [s], t :: _ => clearW P t s h fun h' => K undef h'
  | _, _, _ => False
abbrev Hints := Nat → List Ty
def hintOf (hs : Hints) (d : Option Tmp) : Ty × Ty :=
  match d with
  | some d => match hs d with | [k, v] => (k, v) | _ => (.c .any, .c .any)
  | none => (.c .any, .c .any)
def fnW (P : Program) (f : Value) (as : List Value) (t : TypeId) (h : Hp) (K : Option Value → Hp → Prop) : Prop :=
  match f with
  | .func (.func i) first caps => Fn P i ((first ++ as.toArray) ++ caps) h fun vs h' => exTs (resTys P t) fun ts => vs = ts ∧ K (some (packR ts)) h'
  | _ => False
def mkMapOk : Option Operand → Bool | none => true | some (.const (.int _ _)) => true | _ => false

def louW (P : Program) (hs : Hints) (o : Oper) (ρ : Fr) (h : Hp) (K : Option Value → Hp → Prop) : Prop :=
  match o.op with
  | .alloc t => alW P t h fun v h' => K (some v) h'
  | .box t x => e1 (ev ρ x) fun v => K (some (.pointer (some ⟨h.size, 0, none⟩))) (h.push (.cells v.cells t))
  | .buildSlice t n ps => eP ρ ps.toList fun vs => bsW P t n vs h fun v h' => K (some v) h'
  | .store t a x => e1 (ev ρ a) fun p => adW p fun ad => e1 (ev ρ x) fun v => stW P t ad v h fun h' => K none h'
  | .makeMap t r => match P.underlying t, mkMapOk r with
    | some (.map _ _), true => K (some (.map (some h.size))) (h.push (.map #[] 0))
    | _, _ => False
  | .makeSlice t l c => e1 (ev ρ l) fun lv => e1 (ev ρ c) fun cv => mkW P t lv cv h fun v h' => K (some v) h'
  | .mapUpdate t m k x => e1 (ev ρ m) fun mv => e1 (ev ρ k) fun kv => e1 (ev ρ x) fun xv => mupW P t mv kv xv h fun h' => K none h'
  | .insert t m k x => e1 (ev ρ m) fun mv => e1 (ev ρ k) fun kv => e1 (ev ρ x) fun xv => mupW P t mv kv xv h fun h' => K none h'
  | .mapEntry t m k => e1 (ev ρ m) fun mv => e1 (ev ρ k) fun kv => mentW P t mv kv h fun v h' => K (some v) h'
  | .entryStore _ m s x => e1 (ev ρ m) fun mv => e1 (ev ρ s) fun sv => e1 (ev ρ x) fun xv => mstoW mv sv xv h fun h' => K none h'
  | .range t x => e1 (ev ρ x) fun v => rangeW P t v h fun u h' => K (some u) h'
  | .next it false => e1 (ev ρ it) fun p => adW p fun ad => nextW h ad fun v h' => K (some v) h'
  | .entry it => e1 (ev ρ it) fun p => adW p fun ad => entryW h ad (hintOf hs o.dst).1 (hintOf hs o.dst).2 fun v => K (some v) h
  | .convert s d x => e1 (ev ρ x) fun v => s2bW P s d v h fun u h' => K (some u) h'
  | .slice t x (some l) (some u) (some m) => e1 (ev ρ x) fun v => e1 (ev ρ l) fun lv => e1 (ev ρ u) fun uv => e1 (ev ρ m) fun mv => sl3W P t v lv uv mv fun r => K (some r) h
  | .call { callee := .builtin b, args, argTypes } => eL (evL ρ args.toList) fun as => loB P b as argTypes h fun v h' => K (some v) h'
  | .call { callee := .value f, args, argTypes := _ } => e1 (ev ρ f) fun fv => eL (evL ρ args.toList) fun as => fnW P fv as o.type h K
  | _ => False

section
variable {P : Program} {h : Hp}
theorem storeCells_cp {b : Option Addr} {m : Nat} {new : List Value} (H : cpOk h b m new) {K : Unit → Hp → Prop} (HK : K () (cpHp h b new)) : ∀ a, b = some a → semW P (storeCells a new) h K := by
  rintro a rfl
  obtain ⟨h1, h2, h3⟩ := H
  refine storeCells_sound a new 0 h K (by simpa using h2) (fun j _ hj => h3 a rfl j (by omega)) HK
theorem copyW_sound {t ty : TypeId} {ts : Array TypeId} {u : TypeId} {l : List TypeId} (hts : ts.toList = t :: l) {d s : Value} {K : Value → Hp → Prop} (H : copyW P t d s h K) : semW P (Builtin.copy_ ts ty #[d, s]) h K := by
  have hts0 : ts[0]? = some t := by rw [← Array.getElem?_toList, hts]; rfl
  unfold copyW at H
  split at H
  · rename_i e b n c ht
    split at H
    · rename_i sz hsz
      unfold Builtin.copy_
      simp only [hts0, List.getElem?_toArray, List.getElem?_cons_zero, List.getElem?_cons_succ, semW_bind', semW_underlying]
      refine ⟨_, ht, ?_⟩
      split at H
      · rename_i c' m cc
        obtain ⟨new, h1, h2, h3⟩ := H
        simp only [semW_bind', Builtin.lenOf, semW_pure, semW_sizeOf]
        refine ⟨sz, hsz, ?_⟩
        refine firstCells_sound h1 _ ?_
        have key := storeCells_cp (P := P) h2 (K := fun _ h' => K (.int .i64 (Nat.min m n : Nat)) h') h3
        cases b with
        | none => exact h3
        | some a =>
          simp only [semW_bind']
          refine semW_mono _ (fun _ h' hk => ?_) h (key a rfl)
          exact hk
      · rename_i s'
        obtain ⟨h1, h2, h3⟩ := H
        subst h1
        simp only [semW_bind', Builtin.lenOf, semW_pure, semW_sizeOf]
        refine ⟨1, hsz, ?_⟩
        simp only [Builtin.firstCells, semW_pure]
        have e : ((s'.extract 0 (Nat.min s'.size n)).data.map fun b => Value.int .u8 (b.toNat : Int)).toList = (strCells s').take (Nat.min s'.size n) := by
          simp only [strCells, Array.toList_map]
          rw [← List.map_take]
          congr 1
          show (s'.extract 0 (Nat.min s'.size n)).data.toList = _
          simp
        have key := storeCells_cp (P := P) h2 (K := fun _ h' => K (.int .i64 (Nat.min s'.size n : Nat)) h') h3
        cases b with
        | none => exact h3
        | some a =>
          simp only [semW_bind', e]
          refine semW_mono _ (fun _ h' hk => ?_) h (key a rfl)
          exact hk
      · exact H.elim
    · exact H.elim
  · exact H.elim
theorem clearW_sound {t ty : TypeId} {ts : Array TypeId} {l : List TypeId} (hts : ts.toList = t :: l) {s : Value} {K : Hp → Prop} {K' : Value → Hp → Prop} (H : clearW P t s h K) (HK : ∀ h', K h' → K' undef h') : semW P (Builtin.clear_ ts ty #[s]) h K' := by
  have hts0 : ts[0]? = some t := by rw [← Array.getElem?_toList, hts]; rfl
  unfold clearW at H
  split at H
  · rename_i e b n c ht
    split at H
    · rename_i z hz
      obtain ⟨⟨h1, h2⟩, h3⟩ := H
      unfold Builtin.clear_
      simp only [hts0, List.getElem?_toArray, List.getElem?_cons_zero, semW_bind', semW_underlying]
      refine ⟨_, ht, ?_⟩
      cases b with
      | none =>
        have h3' : K h := by
          have : (if n = 0 then (none : Option Addr) else none) = none := by split <;> rfl
          rw [this] at h3; exact h3
        simp only [semW_pure]
        exact HK _ h3'
      | some a =>
        cases n with
        | zero => simp only [semW_pure]; exact HK _ h3
        | succ n =>
          simp only [semW_bind', semW_zeroValue]
          refine ⟨z, hz, ?_⟩
          simp only [zc, hz] at h1 h2 h3
          have hl : (Builtin.zeroCells z.cells (n + 1)).toList.length = (n + 1) * z.cells.size := by simp [Builtin.zeroCells]
          refine storeCells_sound a _ 0 h _ ?_ (fun j _ hj => h2 a rfl j (by omega)) ?_
          · rw [List.all_eq_true]
            intro v hv
            simp only [Builtin.zeroCells, Array.toList_map, List.mem_map] at hv
            obtain ⟨i, hi, rfl⟩ := hv
            have hlt : i < (n + 1) * z.cells.size := by simpa using hi
            have hpos : 0 < z.cells.size := by
              rcases Nat.eq_zero_or_pos z.cells.size with h0 | h0
              · rw [h0] at hlt; simp at hlt
              · exact h0
            have hm : i % z.cells.size < z.cells.size := Nat.mod_lt _ hpos
            rw [getElem!_pos z.cells _ hm]
            exact (List.all_eq_true.1 h1) _ (by simp)
          · simp only [semW_pure]
            exact HK _ h3
    · exact H.elim
  · exact H.elim
theorem s2bW_sound {src dst : TypeId} {x : Value} {K : Value → Hp → Prop} (H : s2bW P src dst x h K) : semW P (convert src dst x) h K := by
  unfold s2bW at H
  split at H
  · rename_i e s h1 h2
    split at H
    · rename_i h3
      unfold convert
      simp only [semW_bind', semW_underlying]
      refine ⟨_, h1, _, h2, ?_⟩
      simp only [semW_bind', semW_underlying]
      refine ⟨_, h3, ?_⟩
      unfold Conv.stringToBytes
      simp only [semW_bind', semW_choose]
      refine ⟨fun hf => by simp [Question.forced] at hf, fun _ tt => ?_⟩
      have hle := appendCap_cut s.size 0 e tt
      generalize (Question.appendCap s.size 0 e).cut tt = cap at hle
      have hK := H cap hle
      have e1 : (Array.map (fun b : UInt8 => Value.int .u8 (b.toNat : Int)) s.data) = (strCells s).toArray := by
        rw [strCells, ← Array.toList_map]
      rw [e1]
      generalize (strCells s).toArray ++ Array.replicate (cap - s.size) (Value.int .u8 0) = cs at hK
      simp only [semW_newRow, markStringish, semW_bind', semW_shape]
      have e2 : shp (Array.push h (.cells cs e)) h.size = some (e, cs.size) := by simp [shp]
      rw [e2]
      simp only [semW_freeze, semW_pure]
      have e3 : frzHp (Array.push h (.cells cs e)) { block := h.size, off := cs.size } 1 = Array.push h (.cells cs e (cs.size, cs.size + 1)) := by
        unfold frzHp
        simp only [Nat.one_ne_zero, if_false]
        apply Array.ext
        · simp
        · intro i hi1 hi2
          simp only [Array.getElem_modify]
          by_cases hi : i = h.size
          · subst hi; simp
          · have : i < h.size := by simp at hi2; omega
            simp [Array.getElem_push, this, Ne.symm hi]
      rw [e3]
      exact hK
    · exact H.elim
  · exact H.elim
theorem rangeW_sound {t : TypeId} {x : Value} {K : Value → Hp → Prop} (H : rangeW P t x h K) : semW P (Instr.range t x) h K := by
  unfold rangeW at H
  split at H
  · rename_i k e r ht
    obtain ⟨o, h1, h2⟩ := H
    unfold Instr.range
    simp only [semW_bind', semW_underlying]
    refine ⟨_, ht, ?_⟩
    rcases h1 with ⟨rfl, rfl⟩ | ⟨m, es, clock, rfl, h1, rfl⟩
    · simp only [semW_bind', semW_pure, semW_newObj]
      exact h2
    · simp only [semW_bind', semW_getObj]
      refine ⟨_, h1, rfl, ?_⟩
      simp only [semW_bind', semW_pure, semW_newObj]
      exact h2
  · exact H.elim
theorem nextW_sound {a : Addr} {ty : TypeId} {K : Value → Hp → Prop} (H : nextW h a K) : semW P (Instr.next (.pointer (some a)) false ty) h K := by
  obtain ⟨h0, o, h1, h2, h3, h4⟩ := H
  obtain ⟨b, off, spot⟩ := a
  simp only at h0 h1
  subst h0
  unfold Instr.next
  simp only [semW_bind', semW_getObj]
  cases h2 with
  | nil x y z =>
    refine ⟨_, h1, rfl, ?_⟩
    simp only [semW_pure]
    exact h3 (.nil _ _ _)
  | good m since seen last es clock g1 g2 =>
    refine ⟨_, h1, rfl, ?_⟩
    simp only [semW_bind', semW_getObj]
    refine ⟨_, g1, rfl, ?_⟩
    simp only [g2, Bool.false_eq_true, if_false]
    simp only [semW_bind', semW_choose]
    have key : ∀ n : Nat, n < ((if ((es.filter fun e => !seen.contains e.born).filter (·.born < since)).isEmpty then #[none] else #[]) ++
        ((es.filter fun e => !seen.contains e.born).filter (·.born < since) ++ (es.filter fun e => !seen.contains e.born).filter (·.born ≥ since)).map some : Array (Option MapEntry)).size →
        semW P (match ((if ((es.filter fun e => !seen.contains e.born).filter (·.born < since)).isEmpty then #[none] else #[]) ++
        ((es.filter fun e => !seen.contains e.born).filter (·.born < since) ++ (es.filter fun e => !seen.contains e.born).filter (·.born ≥ since)).map some : Array (Option MapEntry))[n]? with
        | some (some e) => do
          setObj b (.mapIter (some m) since (seen.push e.born) clock)
          pure (.tuple #[.bool true, e.key, e.val])
        | some none => pure (.tuple #[.bool false])
        | none => stuck "Next: no such candidate") h K := by
      intro n hn
      generalize hc : ((if ((es.filter fun e => !seen.contains e.born).filter (·.born < since)).isEmpty then #[none] else #[]) ++
        ((es.filter fun e => !seen.contains e.born).filter (·.born < since) ++ (es.filter fun e => !seen.contains e.born).filter (·.born ≥ since)).map some : Array (Option MapEntry)) = cands at hn ⊢
      rw [Array.getElem?_eq_getElem hn]
      have hmem : cands[n] ∈ cands := Array.getElem_mem hn
      cases hx : cands[n] with
      | none =>
        rw [hx, ← hc] at hmem
        simp only [semW_pure]
        refine h3 (.over m since seen last es clock g1 ?_)
        rcases Array.mem_append.1 hmem with h5 | h5
        · split at h5
          · rename_i h6; exact h6
          · simp at h5
        · simp at h5
      | some e =>
        rw [hx, ← hc] at hmem
        simp only [semW_bind', semW_setObj, semW_pure]
        refine ⟨⟨_, h1, rfl⟩, ?_⟩
        refine h4 _ _ _ (.step m since seen last es clock e g1 ?_)
        rcases Array.mem_append.1 hmem with h5 | h5
        · split at h5 <;> simp at h5
        · rw [Array.mem_map] at h5
          obtain ⟨e', h6, h7⟩ := h5
          simp at h7
          subst h7
          rcases Array.mem_append.1 h6 with h8 | h8
          · exact (Array.mem_filter.1 h8).1
          · exact (Array.mem_filter.1 h8).1
    refine ⟨fun hf => ?_, fun hf tt => ?_⟩
    · refine key 0 ?_
      by_cases h5 : ((es.filter fun e => !seen.contains e.born).filter (·.born < since)).isEmpty = true
      · rw [if_pos h5]; simp; omega
      · rw [if_neg h5]
        simp only [Array.isEmpty_iff_size_eq_zero] at h5
        simp only [Array.size_append, Array.size_map]
        omega
    · refine key _ ?_
      simp only [Question.cut]
      exact Nat.mod_lt _ (by simp [Question.forced] at hf ⊢; omega)
theorem entryW_sound {a : Addr} {kt vt : Ty} {K : Value → Prop} {K' : Value → Hp → Prop} (H : entryW h a kt vt K) (HK : ∀ v, K v → K' v h) : semW P (Instr.entry (.pointer (some a))) h K' := by
  obtain ⟨h0, m, since, seen, stamp, es, clock, e, h1, h2, h3, h4, h5⟩ := H
  obtain ⟨k, h6, h7⟩ := exT_ex h5
  obtain ⟨v, h8, h9⟩ := exT_ex h7
  obtain ⟨b, off, spot⟩ := a
  simp only at h0 h1
  subst h0
  unfold Instr.entry
  simp only [semW_bind', semW_getObj]
  refine ⟨_, h1, rfl, ?_⟩
  simp only [h2, semW_bind', semW_getObj]
  refine ⟨_, h3, rfl, ?_⟩
  simp only [bne_self_eq_false, Bool.false_eq_true, if_false, h4, semW_pure]
  subst h6 h8
  exact HK _ h9
end
end Go.Lift

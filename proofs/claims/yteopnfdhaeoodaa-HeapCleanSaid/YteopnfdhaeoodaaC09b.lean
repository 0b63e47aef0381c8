/- Versions of rows: what each function of the relation does. -/
import Derived.Test.YteopnfdhaeoodaaC09a
set_option linter.unusedSimpArgs false
set_option linter.unusedVariables false
namespace Go.Lift
open Go Go.Proofs
set_option maxRecDepth 100000

structure Val where
  kind : Int
  num : Int
  flt : Nat
  str : ByteArray
def encV (v : Val) : List Value := [.int .i64 v.kind, .int .i64 v.num, .float .f64 v.flt, .string v.str]
theorem encV_len (v : Val) : (encV v).length = 4 := rfl
theorem encV_one (v : Val) : ∀ u ∈ encV v, oneCell u = true := by
  intro u hu
  simp only [encV, List.mem_cons, List.mem_nil_iff, or_false] at hu
  rcases hu with rfl | rfl | rfl | rfl <;> rfl
abbrev RowAt (h : Hp) (s : Sl) (vs : List Val) : Prop := SlOf T_api_Value 4 encV h s vs
structure TupC where
  xmin : Int
  xmax : Int
  row : Sl
def tupV (t : TupC) : Value := .agg #[.int .i64 t.xmin, .int .i64 t.xmax, .slice t.row.a t.row.n t.row.c]
structure Tup where
  xmin : Int
  xmax : Int
  row : List Val
def tup0 : Tup := ⟨0, 0, []⟩
structure RelM where
  T : List (Int × Tup)
  next : Int
abbrev encI (n : Int) : Value := .int .i64 n
/-- The memory of a relation. -/
structure IsRelC (h : Hp) (r m : Nat) (next : Int) (C : List (Int × (TupC × List Val))) : Prop where
  blk : Blk h r #[.map (some m), .int .i64 next] T_heap_Rel
  map : IsMap encI tupV h m (amap Prod.fst C)
  rows : ∀ p ∈ C, RowAt h p.2.1.row p.2.2
  small : ∀ p ∈ C, p.2.1.row.n ≤ 2 ^ 20
def absT (p : TupC × List Val) : Tup := ⟨p.1.xmin, p.1.xmax, p.2⟩
structure IsRel (h : Hp) (r m : Nat) (R : RelM) : Prop where
  mem : ∃ C, IsRelC h r m R.next C ∧ R.T = amap absT C
  nx : 0 ≤ R.next ∧ R.next ≤ 65536
  nd : (R.T.map Prod.fst).Nodup
  lt : ∀ k ∈ R.T.map Prod.fst, 0 ≤ k ∧ k < R.next
  len : (R.T.length : Int) ≤ R.next
def RelM.find (R : RelM) (t : Int) : Option Tup := afind R.T t
def RelM.get (R : RelM) (t : Int) : Tup := (R.find t).getD tup0
def RelM.ins (R : RelM) (x : Int) (row : List Val) : RelM := ⟨R.T ++ [(R.next, ⟨x, 0, row⟩)], R.next + 1⟩
def RelM.full (R : RelM) : Bool := decide (512 ≤ R.T.length) || R.next == 65536
def RelM.del (R : RelM) (x t : Int) : RelM := ⟨aput R.T t { R.get t with xmax := x }, R.next⟩
def endedM (L : LogM) (t : Tup) : Bool := t.xmax != 0 && (L.at t.xmax).st != 3
def RelM.sees (R : RelM) (L : LogM) (x t : Int) : Bool := (R.find t).isSome && (L.sees x (R.get t).xmin && !(endedM L (R.get t) && L.sees x (R.get t).xmax))
def RelM.may (R : RelM) (L : LogM) (x t : Int) : Int × Int :=
  if (R.find t).isSome = true ∧ L.sees x (R.get t).xmin = true then
    if endedM L (R.get t) = true then
      if L.sees x (R.get t).xmax = true then (60, 0) else if (L.at (R.get t).xmax).st = 1 then (75, (R.get t).xmax) else (71, (R.get t).xmax)
    else (0, 0)
  else (60, 0)
def RelM.unseen (R : RelM) (L : LogM) (x t : Int) : List Int :=
  if (R.find t).isSome = true then
    if L.sees x (R.get t).xmin = true then
      if endedM L (R.get t) = true ∧ L.sees x (R.get t).xmax = false then [(R.get t).xmax] else []
    else if (L.at (R.get t).xmin).st = 3 then [] else [(R.get t).xmin]
  else []

theorem IsRel.ext {S : List Nat} {h h' : Hp} {r m : Nat} {R : RelM} (hr : IsRel h r m R) (he : Ext S h h') (h1 : r ∉ S) (h2 : m ∉ S) (hS : Other T_api_Value h S) : IsRel h' r m R := by
  obtain ⟨C, hc, hT⟩ := hr.mem
  exact ⟨⟨C, ⟨he.get hc.blk h1, hc.map.ext he h2, fun p hp => (hc.rows p hp).ext he hS, hc.small⟩, hT⟩, hr.nx, hr.nd, hr.lt, hr.len⟩
theorem IsRel.ext0 {h h' : Hp} {r m : Nat} {R : RelM} (hr : IsRel h r m R) (he : Ext [] h h') : IsRel h' r m R := hr.ext he (by simp) (by simp) (Other.nil h)
theorem IsRel.ne_log {h : Hp} {r m p : Nat} {R : RelM} {L : LogM} (hr : IsRel h r m R) (hl : IsLog h p L) : p ≠ r ∧ p ≠ m ∧ r ≠ m := by
  obtain ⟨C, hc, hT⟩ := hr.mem
  obtain ⟨es, c, h1, _⟩ := hc.map
  refine ⟨fun e => ?_, fun e => ?_, fun e => ?_⟩
  · subst e; have := hl.1.symm.trans hc.blk; simp [T_clog_Log, T_heap_Rel] at this
  · subst e; have := hl.1.symm.trans h1; simp at this
  · subst e; have := hc.blk.symm.trans h1; simp at this
theorem IsRel.ext_log {h h' : Hp} {r m p : Nat} {R : RelM} {L : LogM} (hr : IsRel h r m R) (hl : IsLog h p L) (he : Ext [p] h h') : IsRel h' r m R := by
  obtain ⟨h1, h2, _⟩ := hr.ne_log hl
  refine hr.ext he (by simpa using h1.symm) (by simpa using h2.symm) (Other.one hl.1 ?_)
  intro c fz e
  simp [T_clog_Log, T_api_Value] at e
theorem IsLog.ext_rel {h h' : Hp} {r m p : Nat} {R : RelM} {L : LogM} (hl : IsLog h p L) (hr : IsRel h r m R) (he : Ext [m, r] h h') : IsLog h' p L := by
  obtain ⟨h1, h2, _⟩ := hr.ne_log hl
  exact hl.ext he (by simp [h1, h2])

section
variable {h : Hp} {p r m : Nat} {L : LogM} {R : RelM} {Q : List Value → Hp → Prop}
theorem HNew_s (hQ : ∀ h', IsRel h' (h.size + 1) h.size ⟨[], 0⟩ → Ext [] h h' → Q [.pointer (some ⟨h.size + 1, 0, none⟩)] h') : S_heap_New h Q := by
  refine O_heap_New ?_
  unfold F_heap_New
  simp only [wthE, Array.size_push]
  refine hQ _ ⟨⟨[], ⟨?_, ⟨#[], 0, ?_, rfl, Born.nil 0⟩, by simp, by simp⟩, rfl⟩, by simp, by simp, by simp, by simp⟩ ((Ext.push [] h _).pushR _)
  · have := push_get (h.push (Obj.map #[] 0)) (Obj.cells #[.map (some h.size), .int .i64 0] T_heap_Rel)
    rw [Array.size_push] at this; exact this
  · exact push_old (push_get h _) _
abbrev RowIn (h : Hp) (s : Sl) (vs : List Val) : Prop := Reads 4 encV h s vs
theorem Clone_s {s : Sl} {vs : List Val} (hs : RowIn h s vs) (hb : s.n ≤ 2 ^ 20) (hQ : ∀ h' s', RowAt h' s' vs → s'.n = s.n → Ext [] h h' → Q [.slice s'.a s'.n s'.c] h') : S_slices_Clone_sapi_Value_api_Value s h Q := by
  refine O_slices_Clone_sapi_Value_api_Value _ ?_
  unfold F_slices_Clone_sapi_Value_api_Value
  split
  · rename_i e
    have e := Option.isNone_iff_eq_none.1 e
    have h1 := hs.2.1 e
    have h2 := hs.1
    subst h1
    have := hQ h ⟨none, 0, 0⟩ (SlOf.nil _ _) (by simpa using h2.symm) (Ext.refl _ _)
    exact this
  · simp only [wthE]
    exact clone_body hs (by kernel_rfl) encV_len encV_one (by omega) (by omega) fun s' h' ho he hn => hQ h' s' ho.sl hn he
theorem RelM.find_eq {C : List (Int × (TupC × List Val))} (hT : R.T = amap absT C) (t : Int) : R.find t = (afind C t).map absT := by
  unfold RelM.find; rw [hT, afind_amap]
theorem rget_s (hr : IsRel h r m R) {t : Int} (hQ : ∀ h' s, Ext [] h h' → RowAt h' s (R.get t).row → s.n ≤ 2 ^ 20 → Q [.agg #[.int .i64 (R.get t).xmin, .int .i64 (R.get t).xmax, .slice s.a s.n s.c], .bool (R.find t).isSome] h') :
    S_heap_Rel_get (some ⟨r, 0, none⟩) t h Q := by
  refine O_heap_Rel_get _ _ ?_
  unfold F_heap_Rel_get
  obtain ⟨C, hc, hT⟩ := hr.mem
  have hb1 := push_old hc.blk (Obj.cells #[(Value.int .i64 (0 : Int)), (Value.int .i64 (0 : Int)), (Value.slice none 0 0)] T_api_Tuple)
  obtain ⟨es, hm, he⟩ := (hc.map.ext (Ext.push [] h (Obj.cells #[(Value.int .i64 (0 : Int)), (Value.int .i64 (0 : Int)), (Value.slice none 0 0)] T_api_Tuple)) (by simp)).mapAt
  have hf := RelM.find_eq hT t
  simp only [wthE, Option.isNone_some, Bool.false_eq_true, if_false, nilW_some, addr_mk, rd_blk hb1]
  refine ⟨some m, rfl, es, hm, keysLike_ents he t, ?_⟩
  have hg := mgetD_ents he t (tupV ⟨0, 0, ⟨none, 0, 0⟩⟩)
  have hh := mhas_ents he t
  rw [afind_amap] at hg hh
  have key : ∃ c : TupC, mgetD (.int .i64 t) es (tupV ⟨0, 0, ⟨none, 0, 0⟩⟩) = tupV c ∧ c.xmin = (R.get t).xmin ∧ c.xmax = (R.get t).xmax ∧ c.row.n ≤ 2 ^ 20 ∧
      RowAt h c.row (R.get t).row := by
    rw [hg]
    unfold RelM.get
    rw [hf]
    cases hcf : afind C t with
    | none => exact ⟨⟨0, 0, ⟨none, 0, 0⟩⟩, rfl, rfl, rfl, by simp, SlOf.nil _ _⟩
    | some q => exact ⟨q.1, rfl, rfl, rfl, hc.small _ (afind_mem hcf), hc.rows _ (afind_mem hcf)⟩
  obtain ⟨c, hc1, hc2, hc3, hc4, hc5⟩ := key
  refine ⟨c.xmin, c.xmax, c.row, hc1, ?_⟩
  simp [-Array.size_push, wthE, stOk_under, wrs_under, rd_under, lt_push, lt_push_of]
  rw [hh, Option.isSome_map]
  rw [hf, Option.isSome_map, ← hc2, ← hc3] at hQ
  have e4 := (Ext.push [] h (Obj.cells #[(Value.int .i64 c.xmin), (Value.int .i64 c.xmax), (Value.slice c.row.a c.row.n c.row.c)] T_api_Tuple)).pushR (Obj.cells #[(Value.int .i64 c.xmin), (Value.int .i64 c.xmax), (Value.slice c.row.a c.row.n c.row.c)] T_api_Tuple)
  exact hQ _ c.row e4 (hc5.ext0 e4) hc4
end
end Go.Lift

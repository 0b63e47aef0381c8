/- Things that were read: the table in memory; reading it. -/
import Derived.Test.YtifmibpjpnpcpaaW13c
import Derived.Test.YtifmibpjpnpcpaaItS
import Derived.Test.YtifmibpjpnpcpaaSh13
import Derived.Test.YtifmibpjpnpcpaaLvX
import Derived.Test.YtifmibpjpnpcpaaLvQ
set_option linter.unusedSimpArgs false
set_option linter.unusedVariables false
namespace Go.Lift
open Go Go.Proofs Go.RowKit Go.Shelf
set_option maxRecDepth 100000
abbrev encI (n : Int) : Value := .int .i64 n
abbrev evU (_ : Unit) : Value := .int .i64 1
abbrev evM (b : Nat) : Value := .map (some b)
def tU (l : List ThingM) : List (ThingM × Unit) := l.map fun x => (x, ())
theorem tU_keys (l : List ThingM) : (tU l).map Prod.fst = l := by unfold tU; rw [List.map_map]; exact List.map_id l
theorem afind_tU (l : List ThingM) (x : ThingM) : afind (tU l) x = if x ∈ l then some () else none := by
  unfold tU
  induction l with
  | nil => simp [afind]
  | cons a l ih =>
    simp only [List.map_cons, afind, ih, List.mem_cons]
    by_cases e : x = a <;> simp [e]
theorem aput_tU (l : List ThingM) (x : ThingM) : aput (tU l) x () = tU (if x ∈ l then l else l ++ [x]) := by
  unfold tU
  induction l with
  | nil => simp [aput]
  | cons a l ih =>
    simp only [List.map_cons, aput, ih, List.mem_cons]
    by_cases e : x = a
    · simp [e]
    · by_cases e2 : x ∈ l <;> simp [e, e2]
theorem adel_tU (l : List ThingM) (x : ThingM) : adel (tU l) x = tU (l.erase x) := by
  unfold tU
  induction l with
  | nil => simp [adel]
  | cons a l ih =>
    simp only [List.map_cons, adel, ih, List.erase_cons]
    by_cases e : x = a
    · simp [e]
    · have : (a == x) = false := by simpa using Ne.symm e
      simp [e, this]
structure CM where
  b : Nat
  l : List ThingM
abbrev CC := List (Int × CM)
abbrev mS (C : CC) : MM := amap CM.l C
structure TabS (lo : Nat) (h : Hp) (t mb : Nat) (C : CC) (each all fine csn : Int) : Prop where
  blk : Blk h t #[.int .i64 each, .int .i64 all, .map (some mb), .int .i64 fine, .int .i64 csn] T_siread_Table
  outer : IsMap encI evM h mb (amap CM.b C)
  nd : (C.map Prod.fst).Nodup
  inner : ∀ o c, afind C o = some c → IsMap ekT evU h c.b (tU c.l)
  tnd : ∀ o c, afind C o = some c → c.l.Nodup
  lob : ∀ o c, afind C o = some c → lo ≤ c.b
  sep : ∀ o o' c c', afind C o = some c → afind C o' = some c' → o ≠ o' → c.b ≠ c'.b
  smb : ∀ o c, afind C o = some c → c.b ≠ mb
  lot : lo ≤ t
  lom : lo ≤ mb
def FS (t mb : Nat) (C : CC) (b : Nat) : Prop := b = t ∨ b = mb ∨ ∃ o c, afind C o = some c ∧ b = c.b
section
variable {lo : Nat} {h h' : Hp} {t mb : Nat} {C : CC} {each all fine csn : Int} {Q : List Value → Hp → Prop}
theorem map_not_cells {b : Nat} {K V : Type} {ek : K → Value} {ev : V → Value} {T : List (K × V)} (hm : IsMap ek ev h b T) {c : Array Value} {Ty : TypeId} {fz : Nat × Nat} (hb : h[b]? = some (.cells c Ty fz)) : False := by
  obtain ⟨es, cl, h1, _⟩ := hm
  rw [hb] at h1
  cases h1
theorem TabS.lt (hT : TabS lo h t mb C each all fine csn) {b : Nat} (hb : FS t mb C b) : lo ≤ b ∧ b < h.size := by
  rcases hb with rfl | rfl | ⟨o, c, hf, rfl⟩
  · exact ⟨hT.lot, blk_lt hT.blk⟩
  · exact ⟨hT.lom, hT.outer.lt⟩
  · exact ⟨hT.lob o c hf, (hT.inner o c hf).lt⟩
theorem TabS.extF {S : List Nat} (hT : TabS lo h t mb C each all fine csn) (he : Ext S h h') (hS : ∀ b, FS t mb C b → b ∉ S) : TabS lo h' t mb C each all fine csn :=
  ⟨he.get hT.blk (hS _ (Or.inl rfl)), hT.outer.ext he (hS _ (Or.inr (Or.inl rfl))), hT.nd, fun o c hf => (hT.inner o c hf).ext he (hS _ (Or.inr (Or.inr ⟨o, c, hf, rfl⟩))), hT.tnd, hT.lob, hT.sep, hT.smb, hT.lot, hT.lom⟩
theorem TabS.ext0 (hT : TabS lo h t mb C each all fine csn) (he : Ext [] h h') : TabS lo h' t mb C each all fine csn := hT.extF he fun _ _ => by simp
theorem TabS.t_ne (hT : TabS lo h t mb C each all fine csn) : mb ≠ t ∧ ∀ o c, afind C o = some c → c.b ≠ t := by
  refine ⟨fun e => ?_, fun o c hf e => ?_⟩
  · have := hT.outer
    rw [e] at this
    exact map_not_cells this hT.blk
  · have := hT.inner o c hf
    rw [e] at this
    exact map_not_cells this hT.blk
/-- The owner's entry. -/
theorem tab_has (hT : TabS lo h t mb C each all fine csn) (o : Int) : ∃ es, mapAt h (some mb) es ∧ KeysLike (.int .i64 o) es ∧ mgetD (.int .i64 o) es (.map none) = .map ((afind C o).map CM.b) := by
  obtain ⟨es, h1, h2⟩ := hT.outer.mapAt
  refine ⟨es, h1, keysLike_ents h2 o, ?_⟩
  rw [mgetD_ents h2 o, afind_amap]
  cases afind C o <;> rfl
theorem tab_in (hT : TabS lo h t mb C each all fine csn) (o : Int) : MapOr ekT evU h ((afind C o).map CM.b) (tU (thgs (mS C) o)) := by
  unfold thgs
  rw [afind_amap]
  cases hf : afind C o with
  | none => rfl
  | some c => exact hT.inner o c hf
theorem has_get {r : Option Nat} {l : List ThingM} (hm : MapOr ekT evU h r (tU l)) (x : ThingM) : ∃ es, mapAt h r es ∧ KeysLike (ekT x) es ∧ ∃ n : Int, mgetD (ekT x) es (.int .i64 0) = .int .i64 n ∧ decide (n > 0) = decide (x ∈ l) := by
  obtain ⟨es, h1, h2⟩ := hm.mapAt
  refine ⟨es, h1, keysLike_ents h2 x, ?_⟩
  rw [mgetD_ents h2 x, afind_tU]
  by_cases hx : x ∈ l
  · rw [if_pos hx]; exact ⟨1, rfl, by simp [hx]⟩
  · rw [if_neg hx]; exact ⟨0, rfl, by simp [hx]⟩
theorem rd5I {v : Nat} {x : ThingM} {T : TypeId} {K : Int → ByteArray → Int → ByteArray → Int → Prop} (hb : Blk h v (encT x).toArray T) (H : K x.kind x.name x.rel x.index x.n) :
    ∃ n1 : Int, rd h (Addr.add (Addr.mk v 0 none) 0) = some (Value.int .i64 n1) ∧ ∃ s2 : ByteArray, rd h (Addr.add (Addr.mk v 0 none) 1) = some (Value.string s2) ∧ ∃ n3 : Int, rd h (Addr.add (Addr.mk v 0 none) 2) = some (Value.int .i64 n3) ∧ ∃ s4 : ByteArray, rd h (Addr.add (Addr.mk v 0 none) 3) = some (Value.string s4) ∧ ∃ n5 : Int, rd h (Addr.add (Addr.mk v 0 none) 4) = some (Value.int .i64 n5) ∧ K n1 s2 n3 s4 n5 := by
  have r : ∀ i, rd h (Addr.add (Addr.mk v 0 none) i) = (encT x).toArray[i]? := fun i => by rw [addr_mk, rd_blk hb, Nat.zero_add]
  exact ⟨_, r 0, _, r 1, _, r 2, _, r 3, _, r 4, H⟩
theorem rdT {s : Sl} {xs : List ThingM} (hs : Reads 5 encT h s xs) {i : Nat} (hi : i < xs.length) : ∃ a, s.a = some a ∧ ∀ (K : Int → ByteArray → Int → ByteArray → Int → Prop), K xs[i].kind xs[i].name xs[i].rel xs[i].index xs[i].n →
    ∃ n1 : Int, rd h (Addr.add (Addr.add a (i * 5)) 0) = some (Value.int .i64 n1) ∧ ∃ s2 : ByteArray, rd h (Addr.add (Addr.add a (i * 5)) 1) = some (Value.string s2) ∧ ∃ n3 : Int, rd h (Addr.add (Addr.add a (i * 5)) 2) = some (Value.int .i64 n3) ∧ ∃ s4 : ByteArray, rd h (Addr.add (Addr.add a (i * 5)) 3) = some (Value.string s4) ∧ ∃ n5 : Int, rd h (Addr.add (Addr.add a (i * 5)) 4) = some (Value.int .i64 n5) ∧ K n1 s2 n3 s4 n5 := by
  obtain ⟨a, h1, h2⟩ := hs.rd encT_len hi
  refine ⟨a, h1, fun K H => ?_⟩
  have r : ∀ k, k < 5 → rd h (Addr.add (Addr.add a (i * 5)) k) = (encT xs[i])[k]? := fun k hk => by rw [addr_add_add]; exact h2 k hk
  exact ⟨_, r 0 (by omega), _, r 1 (by omega), _, r 2 (by omega), _, r 3 (by omega), _, r 4 (by omega), H⟩
theorem fine_s (x : ThingM) (hQ : ∀ h', Ext [] h h' → Q [.bool (fineT x)] h') : S_siread_Thing_fine x.kind x.name x.rel x.index x.n h Q := by
  refine O_siread_Thing_fine _ _ _ _ _ ?_
  unfold F_siread_Thing_fine
  refine newI fun h1 s1 b1 e1 => ?_
  refine ⟨x.kind, by simp [rd_blk b1], ?_⟩
  have := hQ h1 e1
  unfold fineT at this
  by_cases h3 : x.kind = 3
  · rw [if_pos (by simp [h3])]
    simpa [h3] using this
  · rw [if_neg (by simp [h3])]
    refine ⟨x.kind, by simp [rd_blk b1], ?_⟩
    have e4 : (x.kind == (4 : Int)) = decide (x.kind = 4) := by rw [Bool.eq_iff_iff]; simp
    rw [e4]
    simpa [h3] using this
theorem rel_s (x : ThingM) (hQ : ∀ h', Ext [] h h' → Q [ekT (relT x)] h') : S_siread_Thing_rel x.kind x.name x.rel x.index x.n h Q := by
  refine O_siread_Thing_rel _ _ _ _ _ ?_
  unfold F_siread_Thing_rel
  refine newI fun h1 s1 b1 e1 => ?_
  refine newI fun h2 s2 b2 e2 => ?_
  have b1' := e2.get b1 (by simp)
  refine ⟨x.rel, by simp [rd_blk b1'], ?_⟩
  refine st_blk b2 (by simp) fun h3 s3 b3 e3 => ?_
  have b3' : Blk h3 h1.size (encT (relT x)).toArray T_siread_Thing := b3
  refine rd5I b3' ?_
  exact hQ h3 ((e1.trans0 e2).trans e3 fun b hb hlt => by simp at hb; omega)
instance : Inhabited ThingM := ⟨⟨0, sE, 0, sE, 0⟩⟩
theorem cmp_ltOf (x y : ThingM) : Go.Proofs.ltOf cmpT x y = decide (cmpT x y < 0) := rfl
theorem SortedT {V : Type} {ev : V → Value} {r : Option Nat} {T : List (ThingM × V)} (hm : MapOr ekT ev h r T) (hl : T.length ≤ 2 ^ 28) (hn : (T.map Prod.fst).Nodup)
    (hQ : ∀ h' s, Ext [] h h' → Own T_siread_Thing 5 encT h.size h' s (sortC cmpT (T.map Prod.fst)) → Q [.slice s.a s.n s.c] h') : S_maps_Keys_map_siread_Thing_int_siread_Thing_int r h fun vs5 h6 =>
    ∃ f7 : Nat, ∃ cs8 : Array Value, vs5 = [(Value.func (.func f7) #[] cs8)] ∧
    S_slices_SortedFunc_siread_Thing f7 cs8 33 #[] h6 fun (vs9 : List Value) (h10 : Hp) =>
    ∃ l11 : Sl, vs9 = [(Value.slice l11.a l11.n l11.c)] ∧
    Q [(Value.slice l11.a l11.n l11.c)] h10 := by
  refine O_maps_Keys_map_siread_Thing_int_siread_Thing_int _ ?_
  unfold F_maps_Keys_map_siread_Thing_int_siread_Thing_int
  refine newI fun h1 s1 b1 e1 => ⟨_, _, rfl, ?_⟩
  refine O_slices_SortedFunc_siread_Thing _ _ _ _ ?_
  unfold F_slices_SortedFunc_siread_Thing
  refine CollectT b1 (hm.ext e1 (by simp)) hl fun h2 s ks hp ho e2 => ⟨s, rfl, ?_⟩
  have hlk : ks.length ≤ 2 ^ 40 := by rw [hp.length_eq, List.length_map]; omega
  refine fn_of_calls Try.func42 (c := bodyOf Try.f42) (by kernel_rfl) (by kernel_rfl) ?_
  have hO : Go.Sort.SWO (Go.Proofs.ltOf cmpT) := ⟨fun x => by rw [cmp_ltOf, cmpT3.irr]; rfl, fun x y z h1 h2 => by
      rw [cmp_ltOf, decide_eq_true_eq] at *
      exact cmpT3.trans x y z h1 h2, fun x y z h1 h2 => by
      rw [cmp_ltOf, decide_eq_false_iff_not] at *
      exact cmpT3.nt x y z h1 h2⟩
  have hT : ∀ x y, Go.Proofs.ltOf cmpT x y = false → Go.Proofs.ltOf cmpT y x = false → x = y := fun x y h1 h2 => by
    rw [cmp_ltOf, decide_eq_false_iff_not] at *
    have := cmpT3.anti x y
    exact cmpT_zero x y (by omega)
  refine sortF_c Try.sortFT (by omega) Try.isAgg28 Try.sizeOf28 encT_len (fun x v hv => ?_) cmpT hO hT 33 #[] (enters_of Try.func33 (by kernel_rfl) rfl) (fun x y g _ => ?_) ho hlk fun h3 o3 e3 => ⟨rfl, s, rfl, ?_⟩
  · simp at hv
    rcases hv with rfl | rfl | rfl | rfl | rfl <;> rfl
  · refine calls_of_fn Try.func33 (c := bodyOf Try.f33) (by kernel_rfl) (by kernel_rfl) ?_
    exact compare_s x y fun g' e => ⟨rfl, e⟩
  · have hs := own_ltG ho
    refine hQ h3 s (((e1.trans0 e2).trans e3 fun b hb hlt => by have := hs b hb; omega)) ?_
    have hEq : ks.mergeSort (fun x y => !(Go.Proofs.ltOf cmpT) y x) = sortC cmpT (T.map Prod.fst) := by
      have hks : ks.Nodup := hp.nodup_iff.2 hn
      exact ordC_ext cmpT3 (sortC_ord cmpT3 cmpT_zero hks) (sortC_ord cmpT3 cmpT_zero hn) fun x => by
        rw [sortC_mem, ← hp.mem_iff]
        exact List.mem_mergeSort
    rw [hEq] at o3
    exact o3.mono (by omega)
end
end Go.Lift

/- Tables alike; NameAborts. -/
import Derived.Test.YtogondadohdcoaaW12r
set_option linter.unusedSimpArgs false
set_option linter.unusedVariables false
namespace Go.Lift
open Go Go.Proofs Go.RowKit Go.Shelf
set_option maxRecDepth 100000
section
variable {G G' : Nat → Prop} {h h' h'' : Hp} {cb t : Nat} {L : LM} {N : NM} {Q : List Value → Hp → Prop}
theorem ValueE_s (k n : Int) (f : Nat) (s : ByteArray) (hQ : ∀ h', Ext [] h h' → Q [.bool true] h') : S_liverykeep_Value k n f s k n f s h Q := by
  refine O_liverykeep_Value _ _ _ _ _ _ _ _ ?_
  unfold F_liverykeep_Value
  refine newI fun h1 s1 b1 e1 => newI fun h2 s2 b2 e2 => ?_
  have c1 := e2.get b1 (by simp)
  refine ⟨_, by simp [rd_blk c1]; rfl, _, by simp [rd_blk b2]; rfl, ?_⟩
  rw [if_pos (by simp)]
  refine ⟨_, by simp [rd_blk c1]; rfl, _, by simp [rd_blk b2]; rfl, ?_⟩
  rw [if_pos (by simp)]
  refine ⟨_, by simp [rd_blk c1]; rfl, _, by simp [rd_blk b2]; rfl, ?_⟩
  refine Float64bits_s ⟨_, rfl, by simp [rd_blk b2], ?_⟩
  refine Float64bits_s ⟨_, rfl, ?_⟩
  rw [if_pos (by simp)]
  refine ⟨_, by simp [rd_blk c1]; rfl, _, by simp [rd_blk b2]; rfl, ?_⟩
  have := hQ h2 (e1.trans0 e2)
  simpa using this
theorem ColumnsE_s {a b : Sl} {xs : List ColM} (ha : Reads 7 encC h a xs) (hb : Reads 7 encC h b xs) (hl : xs.length ≤ 2 ^ 40) (hQ : ∀ h', Ext [] h h' → Q [.bool true] h') : S_liverykeep_Columns a b h Q := by
  refine O_liverykeep_Columns _ _ ?_
  unfold F_liverykeep_Columns
  have han := ha.1
  have hbn := hb.1
  rw [if_neg (by simp; omega)]
  intro X hX
  have key : ∀ d i g, d + i = xs.length → Ext [] h g → X [.int .i64 (i : Int)] g := by
    intro d
    induction d with
    | zero =>
      intro i g hi eg
      refine hX _ _ ?_
      rw [if_neg (by simp; omega)]
      exact hQ g eg
    | succ d ih =>
      intro i g hi eg
      refine hX _ _ ?_
      rw [if_pos (by simp; omega)]
      intro J hJ
      obtain ⟨p, u1, u2⟩ := (ha.ext0 eg).rd encC_len (i := i) (by omega)
      obtain ⟨q, v1, v2⟩ := (hb.ext0 eg).rd encC_len (i := i) (by omega)
      rw [u1, v1]
      simp only [nilW_some, Int.toNat_natCast, addr_add_add]
      generalize xs[i]'(by omega) = c at u2 v2
      have hia : 0 ≤ (i : Int) ∧ (i : Int) < (a.n : Int) := by omega
      have hib : 0 ≤ (i : Int) ∧ (i : Int) < (b.n : Int) := by omega
      refine ⟨hia.1, hia.2, c.name, u2 0 (by omega), hib.1, hib.2, c.name, v2 0 (by omega), ?_⟩
      rw [if_neg (by simp)]
      refine ⟨hia.1, hia.2, c.kind, u2 1 (by omega), hib.1, hib.2, c.kind, v2 1 (by omega), ?_⟩
      rw [if_neg (by simp)]
      refine ⟨hia.1, hia.2, c.nn, u2 2 (by omega), hib.1, hib.2, c.nn, v2 2 (by omega), ?_⟩
      rw [if_neg (by simp)]
      refine ⟨hia.1, hia.2, c.dk, u2 3 (by omega), c.dn, u2 4 (by omega), c.df, u2 5 (by omega), c.ds, u2 6 (by omega), hib.1, hib.2, c.dk, v2 3 (by omega), c.dn, v2 4 (by omega), c.df, v2 5 (by omega), c.ds, v2 6 (by omega), ?_⟩
      refine ValueE_s _ _ _ _ fun g2 e2 => ⟨_, rfl, ?_⟩
      refine hJ _ _ ?_
      rw [if_neg (by decide), wrap64 (by omega) (by omega)]
      have := ih (i + 1) g2 (by omega) (eg.trans0 e2)
      simpa using this
  exact key xs.length 0 h (by omega) (Ext.refl _ _)
theorem TableE_s {a b : TW} (hm : a.m = b.m) (ha : Reads 7 encC h a.s a.cl) (hb : Reads 7 encC h b.s b.cl) (hl : a.cl.length ≤ 2 ^ 40) (hQ : ∀ h', Ext [] h h' → Q [.bool true] h') : S_liverykeep_Table a.name a.s a.rel b.name b.s b.rel h Q := by
  refine O_liverykeep_Table _ _ _ _ _ _ ?_
  unfold F_liverykeep_Table
  obtain ⟨an, asl, ac, ar⟩ := a
  obtain ⟨bn, bsl, bc, br⟩ := b
  simp only [TW.m, TM.mk.injEq] at hm
  obtain ⟨rfl, rfl, rfl⟩ := hm
  refine newI fun h1 s1 b1 e1 => newI fun h2 s2 b2 e2 => ?_
  have c1 := e2.get b1 (by simp)
  have e12 := e1.trans0 e2
  refine ⟨an, by simp [rd_blk c1], an, by simp [rd_blk b2], ?_⟩
  rw [if_pos (by simp)]
  refine ⟨ar, by simp [rd_blk c1], ar, by simp [rd_blk b2], ?_⟩
  rw [if_pos (by simp)]
  refine ⟨asl, by simp [rd_blk c1], bsl, by simp [rd_blk b2], ?_⟩
  exact ColumnsE_s (ha.ext0 e12) (hb.ext0 e12) hl fun h3 e3 => ⟨_, rfl, hQ h3 (e12.trans0 e3)⟩
theorem rdT3 {s : Sl} {xs : List TW} (hs : Reads 3 encTW h s xs) {i : Nat} (hi : i < xs.length) : ∃ a, s.a = some a ∧ ∀ (K : ByteArray → Sl → Int → Prop), K xs[i].name xs[i].s xs[i].rel →
    ∃ s3 : ByteArray, rd h (Addr.add (Addr.add a (i * 3)) 0) = some (Value.string s3) ∧ ∃ l4 : Sl, rd h (Addr.add (Addr.add a (i * 3)) 1) = some (Value.slice l4.a l4.n l4.c) ∧ ∃ n5 : Int, rd h (Addr.add (Addr.add a (i * 3)) 2) = some (Value.int .i64 n5) ∧ K s3 l4 n5 := by
  obtain ⟨a, h1, h2⟩ := hs.rd encTW_len hi
  refine ⟨a, h1, fun K H => ?_⟩
  have r : ∀ k, k < 3 → rd h (Addr.add (Addr.add a (i * 3)) k) = (encTW xs[i])[k]? := fun k hk => by rw [addr_add_add]; exact h2 k hk
  exact ⟨_, r 0 (by omega), _, r 1 (by omega), _, r 2 (by omega), H⟩
theorem TablesE_s {a b : Sl} {ts us : List TW} (ha : Reads 3 encTW h a ts) (hb : Reads 3 encTW h b us) (hac : ∀ u ∈ ts, Reads 7 encC h u.s u.cl ∧ u.cl.length ≤ 2 ^ 40) (hbc : ∀ u ∈ us, Reads 7 encC h u.s u.cl) (hm : ts.map TW.m = us.map TW.m) (hl : ts.length ≤ 2 ^ 40)
    (hQ : ∀ h', Ext [] h h' → Q [.bool true] h') : S_liverykeep_Tables a b h Q := by
  refine O_liverykeep_Tables _ _ ?_
  unfold F_liverykeep_Tables
  have han := ha.1
  have hbn := hb.1
  have hlen := congrArg List.length hm
  rw [List.length_map, List.length_map] at hlen
  rw [if_neg (by simp; omega)]
  intro X hX
  have key : ∀ d i g, d + i = ts.length → Ext [] h g → X [.int .i64 (i : Int)] g := by
    intro d
    induction d with
    | zero =>
      intro i g hi eg
      refine hX _ _ ?_
      rw [if_neg (by simp; omega)]
      exact hQ g eg
    | succ d ih =>
      intro i g hi eg
      refine hX _ _ ?_
      rw [if_pos (by simp; omega)]
      obtain ⟨p, u1, u2⟩ := rdT3 (ha.ext0 eg) (i := i) (by omega)
      obtain ⟨q, v1, v2⟩ := rdT3 (hb.ext0 eg) (i := i) (by omega)
      rw [u1, v1]
      simp only [nilW_some, Int.toNat_natCast]
      have hmi : (ts[i]'(by omega)).m = (us[i]'(by omega)).m := by
        have h1 : (ts.map TW.m)[i]? = (us.map TW.m)[i]? := by rw [hm]
        rw [List.getElem?_map, List.getElem?_map, List.getElem?_eq_getElem (by omega), List.getElem?_eq_getElem (by omega)] at h1
        exact Option.some.inj h1
      refine ⟨by omega, by omega, u2 _ ⟨by omega, by omega, v2 _ ?_⟩⟩
      have hx := hac _ (List.getElem_mem (show i < ts.length by omega))
      have hy := hbc _ (List.getElem_mem (show i < us.length by omega))
      refine TableE_s hmi (hx.1.ext0 eg) (hy.ext0 eg) hx.2 fun g2 e2 => ⟨_, rfl, ?_⟩
      rw [if_neg (by decide), wrap64 (by omega) (by omega)]
      have := ih (i + 1) g2 (by omega) (eg.trans0 e2)
      simpa using this
  exact key ts.length 0 h (by omega) (Ext.refl _ _)
end
/-! the plain law: who is aborted -/
def P2 (l : List VM) : Prop := ∀ v ∈ l, v.xmin = 2 ∧ (v.xmax = 0 ∨ v.xmax = 2)
def HeadIs (u : TM) (l : List VM) : Prop := ∃ x post, l = ⟨1, x, u⟩ :: post ∧ (x = 0 ∨ x = 2) ∧ P2 post
structure Ab (N : NM) : Prop where
  t : HeadIs (tabT sT 1) (vsN N sT)
  u : HeadIs (tabT sU 2) (vsN N sU)
  o : ∀ k, k ≠ sT → k ≠ sU → P2 (vsN N k)
theorem P2.end {l : List VM} (h : P2 l) (i : Nat) : P2 (endL 2 i l) := by
  intro v hv
  obtain ⟨u, hu, _, e2, e3⟩ := endL_mem hv
  have := h u hu
  refine ⟨by rw [e2]; exact this.1, ?_⟩
  rcases e3 with e | e
  · rw [e]; exact this.2
  · exact Or.inr e
theorem endL_cons0 (x : Int) (v : VM) (l : List VM) : endL x 0 (v :: l) = { v with xmax := x } :: l := rfl
theorem endL_consS (x : Int) (i : Nat) (v : VM) (l : List VM) : endL x (i + 1) (v :: l) = v :: endL x i l := by
  unfold endL
  simp only [List.getElem?_cons_succ, List.set_cons_succ]
  split <;> rfl
theorem HeadIs.end {u : TM} {l : List VM} (h : HeadIs u l) (i : Nat) : HeadIs u (endL 2 i l) := by
  obtain ⟨x, post, rfl, h1, h2⟩ := h
  cases i with
  | zero => exact ⟨2, post, rfl, Or.inr rfl, h2⟩
  | succ i => exact ⟨x, endL 2 i post, by rw [endL_consS], h1, h2.end i⟩
theorem P2.add {l : List VM} (h : P2 l) (u : TM) : P2 (l ++ [⟨2, 0, u⟩]) := by
  intro v hv
  rcases List.mem_append.1 hv with hv | hv
  · exact h v hv
  · simp only [List.mem_singleton] at hv
    subst hv
    exact ⟨rfl, Or.inl rfl⟩
theorem HeadIs.add {u : TM} {l : List VM} (h : HeadIs u l) (w : TM) : HeadIs u (l ++ [⟨2, 0, w⟩]) := by
  obtain ⟨x, post, rfl, h1, h2⟩ := h
  exact ⟨x, post ++ [⟨2, 0, w⟩], rfl, h1, h2.add w⟩
theorem Ab.aput {N : NM} (h : Ab N) {f : List VM → List VM} (h1 : ∀ u l, HeadIs u l → HeadIs u (f l)) (h2 : ∀ l, P2 l → P2 (f l)) (k : ByteArray) : Ab (aput N k (f (vsN N k))) := by
  refine ⟨?_, ?_, fun j a b => ?_⟩
  · rw [vsN_aput]
    split
    · rename_i e; rw [← e]; exact h1 _ _ h.t
    · exact h.t
  · rw [vsN_aput]
    split
    · rename_i e; rw [← e]; exact h1 _ _ h.u
    · exact h.u
  · rw [vsN_aput]
    split
    · rename_i e; rw [← e]; exact h2 _ (h.o j a b)
    · exact h.o j a b
theorem Ab.mark {N : NM} (h : Ab N) (k : ByteArray) (i : Nat) : Ab (markN N k i 2) := h.aput (f := endL 2 i) (fun _ _ h => h.end i) (fun _ h => h.end i) k
theorem Ab.addv {N : NM} (h : Ab N) (k : ByteArray) (w : TM) : Ab (addN N k ⟨2, 0, w⟩) := h.aput (f := fun l => l ++ [(⟨2, 0, w⟩ : VM)]) (fun _ _ h => h.add w) (fun _ h => h.add w) k
theorem Ab.put {N : NM} (h : Ab N) (L : LM) (w : TM) : Ab (putN L N 2 w) := by
  unfold putN
  split
  · refine Ab.addv ?_ _ _
    split
    · exact h
    · exact h.mark _ _
  · exact h
theorem Ab.drop {N : NM} (h : Ab N) (L : LM) (k : ByteArray) : Ab (dropN L N 2 k) := by
  unfold dropN
  split
  · exact h.mark _ _
  · exact h
def abL2 : LM := ⟨[⟨2, 1, 0, false⟩, ⟨1, 0, 1, false⟩], 1⟩
def abL3 : LM := ⟨[⟨2, 1, 0, false⟩, ⟨3, 0, 1, false⟩, ⟨1, 0, 1, false⟩], 1⟩
def abL1 : LM := ⟨[⟨1, 0, 0, false⟩], 0⟩
theorem abL1_eq : beginL ⟨[], 0⟩ false = abL1 := by kernel_rfl
theorem abL2_eq : beginL (commitL abL1 1) false = abL2 := by kernel_rfl
theorem abL3_eq : beginL (abortL abL2 2) false = abL3 := by kernel_rfl
def abN1 : NM := [(sT, [⟨1, 0, tabT sT 1⟩])]
def abN2 : NM := [(sT, [⟨1, 0, tabT sT 1⟩]), (sU, [⟨1, 0, tabT sU 2⟩])]
theorem un_nil' {L : LM} {N : NM} {x : Int} {k : ByteArray} (h : vsN N k = []) : unseenN L N x k = [] := by
  rw [unseen_nil, h]
  intro v hv
  cases hv
theorem ab_put1 : putE abL1 [] 1 (tabT sT 1) = 0 ∧ putN abL1 [] 1 (tabT sT 1) = abN1 := by
  have hE : putE abL1 [] 1 (tabT sT 1) = 0 := by
    rw [putE_tab (by kernel_rfl) nameT (by omega) (un_nil' rfl), if_neg]
    rintro ⟨_, h⟩
    simp [othersN] at h
  refine ⟨hE, ?_⟩
  unfold putN
  rw [if_pos hE]
  rfl
theorem ne_TU : sU ≠ sT := by decide
theorem vs_U1 : vsN abN1 sU = [] := by
  unfold vsN abN1 afind
  rw [if_neg ne_TU]
  rfl
theorem ab_put2 : putE abL1 abN1 1 (tabT sU 2) = 0 ∧ putN abL1 abN1 1 (tabT sU 2) = abN2 := by
  have hE : putE abL1 abN1 1 (tabT sU 2) = 0 := by
    rw [putE_tab (by kernel_rfl) nameU (by omega) (un_nil' vs_U1), if_neg]
    rintro ⟨_, h⟩
    have : othersN abL1 abN1 1 sU ≤ 1 := by
      unfold othersN
      exact Nat.le_trans (List.length_filter_le _ _) (by simp [abN1])
    omega
  refine ⟨hE, ?_⟩
  unfold putN
  rw [if_pos hE]
  have ha : atN abL1 abN1 1 (tabT sU 2).name = -1 := by
    show atN abL1 abN1 1 sU = -1
    unfold atN
    rw [vs_U1]
    rfl
  rw [ha, if_pos (by decide)]
  show addN abN1 sU _ = _
  unfold addN
  rw [vs_U1]
  unfold abN1 aput
  rw [if_neg ne_TU]
  rfl
theorem ab_start : Ab abN2 := by
  refine ⟨⟨0, [], ?_, Or.inl rfl, by intro v hv; cases hv⟩, ⟨0, [], ?_, Or.inl rfl, by intro v hv; cases hv⟩, fun k h1 h2 => ?_⟩
  · unfold vsN abN2 afind
    rw [if_pos rfl]
    rfl
  · unfold vsN abN2 afind
    rw [if_neg ne_TU]
    unfold afind
    rw [if_pos rfl]
    rfl
  · unfold vsN abN2 afind
    rw [if_neg h1]
    unfold afind
    rw [if_neg h2]
    intro v hv
    cases hv
theorem ab_sees2 {v : VM} (h : v.xmin = 2) : seesV abL3 3 v = false := by
  unfold seesV
  rw [h]
  have : seesL abL3 3 2 = false := by kernel_rfl
  rw [this]
  rfl
theorem ab_sees1 {x : Int} {u : TM} (h : x = 0 ∨ x = 2) : seesV abL3 3 ⟨1, x, u⟩ = true := by
  have h1 : seesL abL3 3 1 = true := by kernel_rfl
  have h2 : (txL abL3 2).state = 3 := by kernel_rfl
  unfold seesV
  rcases h with rfl | rfl
  · simp [h1]
  · simp [h1, h2]
theorem ab_find {l : List VM} (h : P2 l) : l.find? (seesV abL3 3) = none := by
  rw [List.find?_eq_none]
  intro v hv
  rw [ab_sees2 (h v hv).1]
  decide
theorem ab_who {v : VM} (h : v.xmin = 1 ∨ v.xmin = 2) (h2 : v.xmax = 0 ∨ v.xmax = 2) : whoP abL3 3 v.xmin = false ∧ whoP abL3 3 v.xmax = false := by
  have h0 : whoP abL3 3 0 = false := by kernel_rfl
  have h1 : whoP abL3 3 1 = false := by kernel_rfl
  have h3 : whoP abL3 3 2 = false := by kernel_rfl
  constructor
  · rcases h with e | e <;> rw [e] <;> assumption
  · rcases h2 with e | e <;> rw [e] <;> assumption
theorem head_un {N : NM} {k : ByteArray} {u : TM} (h : HeadIs u (vsN N k)) : unseenN abL3 N 3 k = [] := by
  rw [unseen_nil]
  obtain ⟨x, post, e, h1, h2⟩ := h
  rw [e]
  intro v hv
  rcases List.mem_cons.1 hv with rfl | hv
  · exact ab_who (Or.inl rfl) h1
  · exact ab_who (Or.inr (h2 v hv).1) (h2 v hv).2
theorem head_see {N : NM} {k : ByteArray} {u : TM} (h : HeadIs u (vsN N k)) : (seeN abL3 N 3 k).map VM.t = some u ∧ atN abL3 N 3 k = 0 := by
  obtain ⟨x, post, e, h1, h2⟩ := h
  have hs := ab_sees1 (u := u) h1
  constructor
  · unfold seeN
    rw [e, List.find?_cons_of_pos hs]
    rfl
  · unfold atN
    rw [e, atV_cons, if_pos hs]
    rfl
theorem ab_all {M : Nat} {N : NM} (hok : NOk M N) (h : Ab N) : allN abL3 N 3 = [tabT sT 1, tabT sU 2] := by
  have ht := (head_see h.t).1
  have hu := (head_see h.u).1
  have hkey : ∀ {k : ByteArray}, (seeN abL3 N 3 k).isSome = true → k ∈ N.map Prod.fst := by
    intro k hk
    apply Classical.byContradiction
    intro hn
    rw [← afind_none] at hn
    unfold seeN vsN at hk
    rw [hn] at hk
    cases hk
  have hsort : sortC cmpS ((N.map Prod.fst).filter fun k => (seeN abL3 N 3 k).isSome) = [sT, sU] := by
    refine ordC_ext cmp3S (sortC_ord cmp3S (fun x y h => cmpS_zero h) (hok.nd.filter _)) ?_ fun k => ?_
    · unfold OrdC
      simp only [List.pairwise_cons, List.mem_singleton, List.not_mem_nil, false_imp_iff, implies_true, List.Pairwise.nil, and_true]
      intro a ha
      subst ha
      have : sLt sT sU = true := (sLt_btl _ _).2 (by decide)
      unfold cmpS
      rw [if_pos this]
      decide
    · rw [sortC_mem, List.mem_filter]
      simp only [List.mem_cons, List.not_mem_nil, or_false]
      constructor
      · rintro ⟨_, hs⟩
        apply Classical.byContradiction
        intro hn
        have := ab_find (h.o k (fun e => hn (Or.inl e)) (fun e => hn (Or.inr e)))
        unfold seeN at hs
        rw [this] at hs
        cases hs
      · rintro (rfl | rfl)
        · have hs : (seeN abL3 N 3 sT).isSome = true := by
            cases hx : seeN abL3 N 3 sT with
            | none => rw [hx] at ht; cases ht
            | some v => rfl
          exact ⟨hkey hs, hs⟩
        · have hs : (seeN abL3 N 3 sU).isSome = true := by
            cases hx : seeN abL3 N 3 sU with
            | none => rw [hx] at hu; cases hu
            | some v => rfl
          exact ⟨hkey hs, hs⟩
  unfold allN
  rw [hsort]
  simp only [List.filterMap_cons, ht, hu, List.filterMap_nil]
theorem ab_drop {N : NM} (h : Ab N) : dropE abL3 N 3 sU = 0 ∧ dropN abL3 N 3 sU = markN N sU 0 3 := by
  have ha := (head_see h.u).2
  have hE : dropE abL3 N 3 sU = 0 := by
    unfold dropE
    rw [if_neg (by have : (txL abL3 3).state = 1 := by kernel_rfl
                   simp [this]), may_nil (head_un h.u), ha]
    rfl
  refine ⟨hE, ?_⟩
  unfold dropN
  rw [if_pos hE, ha]
  rfl
theorem ab_last {N : NM} (h : Ab N) : putE abL3 (markN N sU 0 3) 3 (tabT sT 9) = 0 := by
  have hv : vsN (markN N sU 0 3) sT = vsN N sT := by
    unfold markN
    rw [vsN_aput, if_neg (Ne.symm ne_TU)]
  have ht : HeadIs (tabT sT 1) (vsN (markN N sU 0 3) sT) := by rw [hv]; exact h.t
  rw [putE_tab (by kernel_rfl) nameT (by omega) (head_un ht), (head_see ht).2, if_neg]
  rintro ⟨h, _⟩
  omega
end Go.Lift

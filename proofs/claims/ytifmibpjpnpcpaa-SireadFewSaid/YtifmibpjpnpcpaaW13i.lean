/- Things that were read: a thing is taken. -/
import Derived.Test.YtifmibpjpnpcpaaW13h
set_option linter.unusedSimpArgs false
set_option linter.unusedVariables false
namespace Go.Lift
open Go Go.Proofs Go.RowKit Go.Shelf
set_option maxRecDepth 100000
theorem decEq (a b : Int) : (a == b) = decide (a = b) := by rw [Bool.eq_iff_iff]; simp
section
variable {G : Nat → Prop} {h : Hp} {t m : Nat} {S : SM} {o : Int} {Q : List Value → Hp → Prop}
theorem take1_s {b : Nat} (y x : ThingM) (hb : Blk h b (encT x).toArray T_siread_Thing) (hQ : ∀ h', Ext [] h h' → Q [.bool (fineT y && decide (y.rel = x.rel))] h') : Fn PP 36 ((#[] ++ #[ekT y]) ++ #[.pointer (some ⟨b, 0, none⟩)]) h Q := by
  refine O_siread_Table_take_1 _ _ _ _ _ _ ?_
  unfold F_siread_Table_take_1
  refine newI fun h1 s1 b1 e1 => ?_
  have b1' : Blk h1 h.size (encT y).toArray T_siread_Thing := b1
  refine rd5I b1' ?_
  refine fine_s y fun h2 e2 => ⟨_, rfl, ?_⟩
  have hb2 := (e1.trans0 e2).get hb (by simp)
  have b2 := e2.get b1' (by simp)
  cases hf : fineT y with
  | false =>
    rw [if_neg (by decide)]
    have := hQ h2 (e1.trans0 e2)
    rw [hf, Bool.false_and] at this
    exact this
  | true =>
    rw [if_pos rfl]
    refine ⟨y.rel, by rw [addr_mk, rd_blk b2]; rfl, x.rel, by rw [addr_mk, rd_blk hb2]; rfl, ?_⟩
    have := hQ h2 (e1.trans0 e2)
    rw [hf, Bool.true_and] at this
    rw [decEq]
    exact this
theorem rdT0 {v : Nat} {x : ThingM} {T : TypeId} (hb : Blk h v (encT x).toArray T) : rd h (Addr.add (Addr.mk v 0 none) 0) = some (.int .i64 x.kind) ∧ rd h (Addr.add (Addr.mk v 0 none) 2) = some (.int .i64 x.rel) := by
  constructor <;> (rw [addr_mk, rd_blk hb]; rfl)
theorem SvO.extG {L : List Nat} {h' : Hp} (hS : SvO G h t S o m) (he : Ext L h h') (hL : ∀ b ∈ L, G b) : SvO G h' t S o m := by
  obtain ⟨g1, mb, C, g2, g3, g4, g5⟩ := hS
  have := he.sz
  exact ⟨fun b hb => by have := g1 b hb; omega, mb, C, g2.extF he fun b hb hm => g4 b hb (hL b hm), g3, g4, g5⟩
theorem countV_s {N : Nat} (hS : Sv G h t S) (hok : SOk N S) (hN : N ≤ 2 ^ 20) (r : Int) (hQ : ∀ h', Ext [] h h' → Q [.int .i64 (nR (thgs S.m o) r : Nat)] h') : S_siread_Table_count (some ⟨t, 0, none⟩) o r h Q := by
  obtain ⟨g1, mb, C, g2, g3, g4⟩ := hS
  have hlen := thgs_len hok.nd o
  have hb := hok.bnd
  exact count_s g2 o r (by rw [g3]; omega) fun h' e => by rw [g3]; exact hQ h' e
theorem take_s {N : Nat} (hS : Sv G h t S) (hok : SOk N S) (hN : N ≤ 2 ^ 20) (ho : 0 ≤ o ∧ o ≤ 200) (x : ThingM) (hQ : ∀ h', Sv G h' t (takeS S o x) → KG G h h' → Q [] h') :
    S_siread_Table_take (some ⟨t, 0, none⟩) o x.kind x.name x.rel x.index x.n h Q := by
  refine O_siread_Table_take _ _ _ _ _ _ _ ?_
  unfold F_siread_Table_take
  refine newI fun h1 s1 b1 e1 => ?_
  have b1' : Blk h1 h.size (encT x).toArray T_siread_Thing := b1
  have hS1 := hS.more e1
  have hkg1 : KG G h h1 := kg_ext0 e1 hS.1
  generalize hGe : GX G h h1 = G1 at hS1
  have hGG : ∀ b, G b → G1 b := fun b hb => by rw [← hGe]; exact Or.inl hb
  have hGc : G1 h.size := by rw [← hGe]; exact Or.inr ⟨Nat.le_refl _, by omega⟩
  -- what comes out, in the view that has the cell as well
  have out : ∀ g, Sv G1 g t (takeS S o x) → KG G h g → Q [] g := fun g h1' h2' => hQ g (h1'.anti hGG) h2'
  intro J2 hJ2
  simp only [nilW_some] at hJ2
  by_cases hk : x.kind < 1 ∨ x.kind > 4
  · have ht : takeS S o x = S := by unfold takeS; rw [if_pos hk]
    have fin : J2 [.bool true] h1 := by
      refine hJ2 _ _ ?_
      rw [if_pos rfl]
      exact out h1 (by rw [ht]; exact hS1) hkg1
    refine ⟨_, (rdT0 b1').1, ?_⟩
    by_cases h1k : x.kind < 1
    · rw [if_pos (by simpa using h1k)]; exact fin
    · rw [if_neg (by simpa using h1k)]
      refine ⟨_, (rdT0 b1').1, ?_⟩
      rw [decide_eq_true (by omega)]
      exact fin
  · have hk' : 1 ≤ x.kind ∧ x.kind ≤ 4 := by omega
    obtain ⟨hok1, hthb, ⟨l1, hl1⟩, f1, f2, f3, f4, f5⟩ := bornS_ok hok ho
    -- the end: the thing, or the relation, is put
    have wh : ∀ (S1 : SM) (m : Nat) (y : ThingM) (J : List Value → Hp → Prop) (g : Hp), SOk N S1 → SvO G1 g t S1 o m → KG G h g → Blk g h.size (encT y).toArray T_siread_Thing → (∀ g', SvO G1 g' t (wholeS S1 o y) o m → KG G h g' → Q [] g') →
        ∃ n25 : Int, rd g (Addr.add (Addr.mk (Array.size h) 0 none) 0) = some (Value.int .i64 n25) ∧
          ∀ J26 : List Value → Hp → Prop, (∀ h27 : Hp, (∃ r29 : Option Nat, rd h27 (Addr.add ⟨t, 0, none⟩ 2) = some (Value.map r29) ∧
            ∃ es30 : Array MapEntry, mapAt h27 r29 es30 ∧ KeysLike (Value.int .i64 o) es30 ∧ ∃ r31 : Option Nat, mgetD (Value.int .i64 o) es30 (Value.map none) = (Value.map r31) ∧
            ∃ n32 : Int, rd h27 (Addr.add (Addr.mk (Array.size h) 0 none) 0) = some (Value.int .i64 n32) ∧ ∃ s33 : ByteArray, rd h27 (Addr.add (Addr.mk (Array.size h) 0 none) 1) = some (Value.string s33) ∧ ∃ n34 : Int, rd h27 (Addr.add (Addr.mk (Array.size h) 0 none) 2) = some (Value.int .i64 n34) ∧ ∃ s35 : ByteArray, rd h27 (Addr.add (Addr.mk (Array.size h) 0 none) 3) = some (Value.string s35) ∧ ∃ n36 : Int, rd h27 (Addr.add (Addr.mk (Array.size h) 0 none) 4) = some (Value.int .i64 n36) ∧ ∃ (m37 : Nat) (es38 : Array MapEntry) (c39 : Nat), r31 = some m37 ∧ h27[m37]? = some (.map es38 c39) ∧ KeysLike (Value.agg #[(Value.int .i64 n32), (Value.string s33), (Value.int .i64 n34), (Value.string s35), (Value.int .i64 n36)]) es38 ∧ wth (Array.setIfInBounds h27 m37 (mput (Value.agg #[(Value.int .i64 n32), (Value.string s33), (Value.int .i64 n34), (Value.string s35), (Value.int .i64 n36)]) (Value.int .i64 (1 : Int)) es38 c39)) fun h40 =>
            Q [] h40) → J26 [] h27) →
          (if (n25 == (2 : Int)) = true then
            (S_siread_Table_lose (some ⟨t, 0, none⟩) o 36 #[(Value.pointer (some (Addr.mk (Array.size h) 0 none)))] g fun (vs41 : List Value) (h42 : Hp) =>
              vs41 = [] ∧
              J26 [] h42) else
            (J26 [] g)) := by
      intro S1 m y J g hok1 hO hkg hby hq
      refine ⟨_, (rdT0 hby).1, ?_⟩
      intro J26 hJ
      have last : ∀ (S2 : SM) (g2 : Hp), SOk N S2 → SvO G1 g2 t S2 o m → KG G h g2 → Blk g2 h.size (encT y).toArray T_siread_Thing → (∀ g', SvO G1 g' t (putS S2 o y) o m → KG G h g' → Q [] g') → J26 [] g2 := by
        intro S2 g2 hok2 hO2 hkg2 hb2 hq2
        refine hJ g2 ?_
        obtain ⟨mb, r1, es, r2, r3, r4⟩ := hO2.has
        refine ⟨_, r1, es, r2, r3, _, r4, ?_⟩
        refine rd5I hb2 ?_
        obtain ⟨es2, c2, p1, p2, p3⟩ := hO2.put (hok2.thg o).1 y
        refine ⟨m, es2, c2, rfl, p1, p2, setI p1 fun g3 s3 b3 e3 => ?_⟩
        obtain ⟨q1, q2⟩ := p3 g3 e3 b3
        exact hq2 g3 q1 (hkg2.trans (q2.anti hGG))
      by_cases hk2 : y.kind = 2
      · rw [if_pos (by simp [hk2])]
        refine loseO_s hO hok1 hN (fun z => fineT z && decide (z.rel = y.rel)) (fun z g3 K hk3 hK => ?_) fun g3 hO3 hkg3 => ⟨rfl, ?_⟩
        · exact take1_s z y (hk3.get hby hGc) hK
        · refine last _ g3 (loseS_ok hok1 ho _).1 hO3 (hkg.trans (hkg3.anti hGG)) (hkg3.get hby hGc) fun g4 hO4 hkg4 => ?_
          refine hq g4 ?_ hkg4
          unfold wholeS
          simp only [hk2, if_true]
          exact hO4
      · rw [if_neg (by simp [hk2])]
        refine last S1 g hok1 hO hkg hby fun g4 hO4 hkg4 => hq g4 ?_ hkg4
        unfold wholeS
        simp only [hk2, if_false]
        exact hO4
    refine ⟨_, (rdT0 b1').1, ?_⟩
    rw [if_neg (by simpa using hk'.1)]
    refine ⟨_, (rdT0 b1').1, ?_⟩
    rw [decide_eq_false (by omega)]
    refine hJ2 _ _ ?_
    rw [if_neg (by decide)]
    obtain ⟨mb, r1, es, r8, r2, r3, r4, r5, r6⟩ := hS1.has o
    refine ⟨_, r1, es, r2, r3, _, r4, ?_⟩
    intro J9 hJ9
    have hts : takeS S o x = if x ∈ thgs (bornS S o).m o ∨ (fineT x = true ∧ relT x ∈ thgs (bornS S o).m o) then bornS S o
      else if fineT x = true then
        if (nR (thgs (bornS S o).m o) x.rel : Int) < (bornS S o).each ∧ (bornS S o).fine < (bornS S o).all then addS (bornS S o) o x 1 else wholeS (bornS S o) o (relT x)
      else wholeS (bornS S o) o x := by
      unfold takeS
      rw [if_neg hk]
    have cont : ∀ (g : Hp) (m : Nat), SvO G1 g t (bornS S o) o m → KG G1 h1 g → J9 [.map (some m)] g := by
      intro g m hO hkg
      have hcell := hkg.get b1' hGc
      have hkgG : KG G h g := hkg1.trans (hkg.anti hGG)
      generalize hS' : bornS S o = S1 at *
      refine hJ9 _ _ ?_
      intro J12 hJ12
      have t12 : ∀ g', Ext [] g g' → (x ∈ thgs S1.m o ∨ (fineT x = true ∧ relT x ∈ thgs S1.m o)) → J12 [.bool true] g' := by
        intro g' e hin
        refine hJ12 _ _ ?_
        rw [if_pos rfl]
        refine out g' ?_ (hkgG.trans (kg_ext0 e fun b hb => hO.1 b (hGG b hb)))
        rw [hts, if_pos hin]
        exact (hO.ext0 e).sv
      have f12 : ∀ g', Ext [] g g' → ¬ (x ∈ thgs S1.m o ∨ (fineT x = true ∧ relT x ∈ thgs S1.m o)) → J12 [.bool false] g' := by
        intro g' e hin
        rw [if_neg hin] at hts
        have hO2 := hO.ext0 e
        have hc2 := e.get hcell (by simp)
        have hkg2 : KG G h g' := hkgG.trans (kg_ext0 e fun b hb => hO.1 b (hGG b hb))
        refine hJ12 _ _ ?_
        rw [if_neg (by decide)]
        refine rd5I hc2 ?_
        refine fine_s x fun g3 e3 => ⟨_, rfl, ?_⟩
        intro J23 hJ23
        have hO3 := hO2.ext0 e3
        have hc3 := e3.get hc2 (by simp)
        have hkg3 : KG G h g3 := hkg2.trans (kg_ext0 e3 fun b hb => hO2.1 b (hGG b hb))
        cases hf : fineT x with
        | false =>
          rw [if_neg (by decide)]
          rw [if_neg (by simp [hf])] at hts
          refine hJ23 g3 ?_
          exact wh S1 m x J23 g3 hok1 hO3 hkg3 hc3 fun g4 hO4 hkg4 => out g4 (by rw [hts]; exact hO4.sv) hkg4
        | true =>
          rw [if_pos rfl]
          rw [if_pos hf] at hts
          intro J43 hJ43
          refine ⟨_, (rdT0 hc3).2, _, hO3.sv.fld.1, ?_⟩
          refine countV_s hO3.sv hok1 hN x.rel fun g4 e4 => ⟨_, rfl, ?_⟩
          have hO4 := hO3.ext0 e4
          have hc4 := e4.get hc3 (by simp)
          have hkg4 : KG G h g4 := hkg3.trans (kg_ext0 e4 fun b hb => hO3.1 b (hGG b hb))
          refine ⟨hO4.sv.fld.1, ?_⟩
          have no43 : ¬ ((nR (thgs S1.m o) x.rel : Int) < S1.each ∧ S1.fine < S1.all) → J43 [.bool false] g4 := by
            intro hn
            rw [if_neg hn] at hts
            refine hJ43 _ _ ?_
            rw [if_neg (by decide)]
            refine rd5I hc4 ?_
            refine rel_s x fun g5 e5 => ⟨_, _, _, _, _, rfl, ?_⟩
            have hO5 := hO4.ext0 e5
            have hc5 : Blk g5 h.size (encT x).toArray T_siread_Thing := e5.get hc4 (by simp)
            have hkg5 : KG G h g5 := hkg4.trans (kg_ext0 e5 fun b hb => hO4.1 b (hGG b hb))
            refine st_blk hc5 (by simp) fun g6 s6 b6 e6 => ?_
            refine hJ23 g6 ?_
            have hO6 := hO5.extG e6 (by intro b hb; simp at hb; subst hb; exact hGc)
            have hkg6 : KG G h g6 := hkg5.trans (kg_ext e6 (fun b hb => hO5.1 b (hGG b hb)) fun b hb hg => by
              simp at hb; subst hb; have := hS.1 _ hg; omega)
            exact wh S1 m (relT x) J23 g6 hok1 hO6 hkg6 b6 fun g4 hO4 hkg4 => out g4 (by rw [hts]; exact hO4.sv) hkg4
          by_cases hc : (nR (thgs S1.m o) x.rel : Int) < S1.each
          · rw [if_pos (by simpa using hc)]
            refine ⟨_, hO4.sv.fld.2.2.1, _, hO4.sv.fld.2.1, ?_⟩
            by_cases hc2 : S1.fine < S1.all
            · rw [decide_eq_true hc2]
              refine hJ43 _ _ ?_
              rw [if_pos rfl]
              rw [if_pos ⟨hc, hc2⟩] at hts
              refine rd5I hc4 ?_
              obtain ⟨es2, c2, p1, p2, p3⟩ := hO4.put (hok1.thg o).1 x
              refine ⟨m, es2, c2, rfl, p1, p2, setI p1 fun g5 s5 b5 e5 => ?_⟩
              obtain ⟨q1, q2⟩ := p3 g5 e5 b5
              have hx : x ∉ thgs S1.m o := fun hx => hin (Or.inl hx)
              have hput : putS S1 o x = addS S1 o x 0 := by unfold putS; rw [if_neg hx]
              rw [hput] at q1
              refine ⟨_, q1.sv.fld.2.2.1, ?_⟩
              refine q1.setFine _ fun g6 hO6 hkg6 => ?_
              refine out g6 ?_ ((hkg4.trans (q2.anti hGG)).trans (hkg6.anti hGG))
              rw [hts]
              have hal := hok1.al
              have hfi := hok1.fine
              have h0 : (0 : Int) ≤ (totF S1.m : Int) := by omega
              have : IntKind.wrap .i64 ((addS S1 o x 0).fine + 1) = S1.fine + 1 := by
                show IntKind.wrap .i64 (S1.fine + 0 + 1) = _
                rw [wrap64 (by omega) (by omega)]
                omega
              rw [this] at hO6
              exact hO6.sv
            · rw [decide_eq_false hc2]
              exact no43 (fun h => hc2 h.2)
          · rw [if_neg (by simpa using hc)]
            exact no43 (fun h => hc h.1)
      refine rd5I hcell ?_
      obtain ⟨es1, k1, k2, n88, k3, k4⟩ := has_get (r := some m) (show MapOr ekT evU g (some m) (tU (thgs S1.m o)) from hO.inn.1) x
      refine ⟨es1, k1, k2, n88, k3, ?_⟩
      rw [k4]
      by_cases hx : x ∈ thgs S1.m o
      · rw [if_pos (by simpa using hx)]
        exact t12 g (Ext.refl _ _) (Or.inl hx)
      · rw [if_neg (by simpa using hx)]
        refine rd5I hcell ?_
        refine fine_s x fun g3 e3 => ⟨_, rfl, ?_⟩
        have hc3 := e3.get hcell (by simp)
        cases hf : fineT x with
        | false =>
          rw [if_neg (by decide)]
          refine f12 g3 e3 ?_
          rintro (q | q)
          · exact hx q
          · rw [hf] at q; cases q.1
        | true =>
          rw [if_pos rfl]
          refine rd5I hc3 ?_
          refine rel_s x fun g4 e4 => ⟨_, _, _, _, _, rfl, ?_⟩
          have e34 := e3.trans0 e4
          obtain ⟨es2, k1, k2, n110, k3, k5⟩ := has_get (r := some m) (show MapOr ekT evU g4 (some m) (tU (thgs S1.m o)) from (hO.ext0 e34).inn.1) (relT x)
          refine ⟨es2, k1, k2, n110, k3, ?_⟩
          rw [k5]
          by_cases hr : relT x ∈ thgs S1.m o
          · rw [decide_eq_true hr]
            exact t12 g4 e34 (Or.inr ⟨hf, hr⟩)
          · rw [decide_eq_false hr]
            refine f12 g4 e34 ?_
            rintro (q | q)
            · exact hx q
            · exact hr q.2
    rcases r6 with ⟨rfl, hn⟩ | ⟨m, rfl, hO⟩
    · rw [if_pos (by simp)]
      refine newI fun g2 s2 b2 e2 => ?_
      obtain ⟨mb2, q1, es2, c2, q2, q3, q4⟩ := hS1.born hn e2 s2 b2
      refine ⟨_, q1, mb2, es2, c2, rfl, q2, q3, setI q2 fun g3 s3 b3 e3 => ?_⟩
      obtain ⟨w1, w2⟩ := q4 g3 e3 b3
      exact cont g3 _ w1 w2
    · rw [if_neg (by simp)]
      have hb : bornS S o = S := by
        unfold bornS
        rw [hO.inn.2]
      exact cont h1 m (by rw [hb]; exact hO) (.refl _ _)
end
end Go.Lift

/- Versions of rows: how they are put and ended, and read. -/
import Derived.Test.YteopnfdhaeoodaaC09c
set_option linter.unusedSimpArgs false
set_option linter.unusedVariables false
namespace Go.Lift
open Go Go.Proofs
set_option maxRecDepth 100000

theorem ne_cells {h : Hp} {b b' : Nat} {X Y : Obj} (h1 : h[b]? = some X) (h2 : h[b']? = some Y) (hn : X ≠ Y) : b ≠ b' := by
  intro e; subst e; rw [h1] at h2; exact hn (Option.some.inj h2)
theorem set_push_ext {h : Hp} {b : Nat} {o : Obj} {S : List Nat} (hb : b ∈ S) : Ext S h (h.setIfInBounds b o) := (Ext.set h b o).mono (by intro c hc _; simp at hc; subst hc; exact hb)

section
variable {h : Hp} {p r m : Nat} {L : LogM} {R : RelM} {Q : List Value → Hp → Prop}
theorem ends_lt (hr : IsRel h r m R) : R.next ∉ R.T.map Prod.fst := fun hm => by have := hr.lt _ hm; omega
theorem rel_other (hr : IsRel h r m R) : Other T_api_Value h [m, r] := by
  obtain ⟨C, hc, hT⟩ := hr.mem
  obtain ⟨es, c, h1, h2⟩ := hc.map
  refine Other.two h1 (by intro c fz e; cases e) hc.blk ?_
  intro c fz e
  simp [T_heap_Rel, T_api_Value] at e
theorem Insert_s (hr : IsRel h r m R) {x : Int} {s : Sl} {vs : List Val} (hs : RowIn h s vs) (hn : s.n ≤ 2 ^ 20)
    (hQ : ∀ h', IsRel h' r m (if 1 ≤ x ∧ R.full = false then R.ins x vs else R) → Ext [m, r] h h' → Q [.int .i64 (if 1 ≤ x ∧ R.full = false then R.next else 0), .int .i64 (if 1 ≤ x then if R.full = true then 74 else 0 else 1)] h') :
    S_heap_Rel_Insert (some ⟨r, 0, none⟩) x s h Q := by
  refine O_heap_Rel_Insert _ _ _ ?_
  unfold F_heap_Rel_Insert
  obtain ⟨C, hc, hT⟩ := hr.mem
  obtain ⟨es, hm, he⟩ := hc.map.mapAt
  have hlen : es.size = R.T.length := by rw [ents_size he, hT]; simp [amap]
  have hnx := hr.nx
  intro J1 hJ1
  rw [if_neg (by simp)]
  refine hJ1 _ _ ?_
  by_cases hx : x < 1
  · rw [if_pos (by simpa using hx)]
    have := hQ h (by rw [if_neg (by omega)]; exact hr) (Ext.refl _ _)
    rw [if_neg (by omega), if_neg (by omega)] at this
    exact this
  · rw [if_neg (by simpa using hx)]
    intro J4 hJ4
    simp only [nilW_some, addr_mk, rd_blk hc.blk]
    refine ⟨some m, rfl, es, hm, ?_⟩
    have hfull : R.full = true → Q [.int .i64 0, .int .i64 74] h := by
      intro hf
      have := hQ h (by rw [if_neg (by simp [hf])]; exact hr) (Ext.refl _ _)
      rw [if_neg (by simp [hf]), if_pos (by omega), if_pos hf] at this
      exact this
    by_cases h5 : 512 ≤ R.T.length
    · rw [if_pos (by simp; omega)]
      refine hJ4 _ _ ?_
      rw [if_pos rfl]
      exact hfull (by simp [RelM.full, h5])
    · rw [if_neg (by simp; omega)]
      refine ⟨R.next, rfl, ?_⟩
      refine hJ4 _ _ ?_
      by_cases h6 : R.next = 65536
      · rw [if_pos (by simp [h6])]
        exact hfull (by simp [RelM.full, h6])
      · rw [if_neg (by simp [h6])]
        have hf : R.full = false := by simp [RelM.full, h6]; omega
        rw [if_pos ⟨by omega, hf⟩, if_pos ⟨by omega, hf⟩, if_pos (by omega), if_neg (by simp [hf])] at hQ
        simp only [nilW_some, addr_mk, rd_blk hc.blk]
        refine ⟨some m, rfl, R.next, rfl, ?_⟩
        refine Clone_s hs hn fun h2 s' hs' hn' e2 => ⟨s', rfl, ?_⟩
        have b2 := e2.get hc.blk (by simp)
        have m2 := hc.map.ext e2 (by simp)
        obtain ⟨es2, c2, g1, g2, g3⟩ := m2.put R.next ⟨x, 0, s'⟩
        simp only [rd_blk b2]
        refine ⟨rfl, rfl, m, es2, c2, rfl, g1, g2, ?_⟩
        have hmr : m ≠ r := ne_cells g1 b2 (by simp)
        refine setI g1 fun h3 s3 k3 e3 => ?_
        have g3 := g3 h3 k3
        have b3 := e3.get b2 (by simpa using hmr.symm)
        simp only [rd_blk b3]
        refine ⟨R.next, rfl, ?_⟩
        rw [wrap64 (by omega) (by omega)]
        refine st_blk b3 (by simp) fun h4 s4 b4 e4 => ?_
        simp only [rd_blk b4]
        refine ⟨R.next + 1, rfl, ?_⟩
        rw [show R.next + 1 - 1 = R.next by omega, wrap64 (by omega) (by omega)]
        have e5 : Ext [m, r] h2 h4 := (e3.mono (by simp)).trans e4 (by simp)
        have e6 : Ext [m, r] h h4 := (e2.mono (by simp)).trans e5 (by simp)
        refine hQ h4 ⟨⟨C ++ [(R.next, ⟨x, 0, s'⟩, vs)], ⟨?_, ?_, ?_, ?_⟩, ?_⟩, ?_, ?_, ?_, ?_⟩ e6
        · simpa [RelM.ins] using b4
        · have := g3.ext e4 (by simpa using hmr)
          rw [aput_new (by rw [keys_amap]; have := ends_lt hr; rw [hT, keys_amap] at this; exact this)] at this
          simpa [amap] using this
        · intro q hq
          rw [List.mem_append] at hq
          rcases hq with hq | hq
          · exact (hc.rows q hq).ext e6 (rel_other hr)
          · simp at hq; subst hq
            refine hs'.ext e5 (Other.two g1 (by intro c fz e; cases e) b2 ?_)
            intro c fz e
            simp [T_heap_Rel, T_api_Value] at e
        · intro q hq
          rw [List.mem_append] at hq
          rcases hq with hq | hq
          · exact hc.small q hq
          · simp at hq; subst hq
            have hn2 : s'.n = s.n := hn'
            show s'.n ≤ 2 ^ 20
            omega
        · simp [RelM.ins, hT, amap, absT]
        · show 0 ≤ R.next + 1 ∧ R.next + 1 ≤ 65536
          omega
        · have h1 := hr.nd
          have h2 := ends_lt hr
          simp only [RelM.ins, List.map_append, List.map_cons, List.map_nil]
          rw [List.nodup_append]
          refine ⟨h1, by simp, ?_⟩
          intro a ha b hb
          simp at hb; subst hb
          exact fun e => h2 (e ▸ ha)
        · intro k hk
          simp only [RelM.ins, List.map_append, List.map_cons, List.map_nil, List.mem_append, List.mem_singleton] at hk ⊢
          rcases hk with hk | hk
          · have := hr.lt k hk; omega
          · omega
        · have := hr.len
          simp only [RelM.ins, List.length_append, List.length_cons, List.length_nil]
          omega
theorem Delete_s (hr : IsRel h r m R) {x t : Int}
    (hQ : ∀ h', IsRel h' r m (if 1 ≤ x ∧ (R.find t).isSome = true then R.del x t else R) → Ext [m, r] h h' → Q [.int .i64 (if 1 ≤ x then if (R.find t).isSome = true then 0 else 60 else 1)] h') :
    S_heap_Rel_Delete (some ⟨r, 0, none⟩) x t h Q := by
  refine O_heap_Rel_Delete _ _ _ ?_
  unfold F_heap_Rel_Delete
  obtain ⟨C, hc, hT⟩ := hr.mem
  obtain ⟨es, hm, he⟩ := hc.map.mapAt
  have hf := RelM.find_eq hT t
  intro J1 hJ1
  rw [if_neg (by simp)]
  refine hJ1 _ _ ?_
  by_cases hx : x < 1
  · rw [if_pos (by simpa using hx)]
    have := hQ h (by rw [if_neg (by omega)]; exact hr) (Ext.refl _ _)
    rw [if_neg (by omega)] at this
    exact this
  · rw [if_neg (by simpa using hx)]
    simp only [nilW_some, addr_mk, rd_blk hc.blk]
    refine ⟨some m, rfl, es, hm, keysLike_ents he t, ?_⟩
    have hg := mgetD_ents he t (tupV ⟨0, 0, ⟨none, 0, 0⟩⟩)
    have hh := mhas_ents he t
    rw [afind_amap] at hg hh
    rw [Option.isSome_map] at hh
    cases hcf : afind C t with
    | none =>
      rw [hcf] at hg hh hf
      refine ⟨0, 0, ⟨none, 0, 0⟩, hg, ?_⟩
      refine varI rfl rfl fun h3 s3 b3 e3 => ?_
      rw [hh, if_pos (by simp)]
      have := hQ h3 (by rw [if_neg (by simp [hf])]; exact hr.ext0 e3) (e3.mono (by simp))
      rw [if_pos (by omega), if_neg (by simp [hf])] at this
      exact this
    | some q =>
      rw [hcf] at hg hh hf
      refine ⟨q.1.xmin, q.1.xmax, q.1.row, hg, ?_⟩
      refine varI rfl rfl fun h3 s3 b3 e3 => ?_
      rw [hh, if_neg (by simp)]
      rw [if_pos ⟨by omega, by simp [hf]⟩, if_pos (by omega), if_pos (by simp [hf])] at hQ
      refine st_blk b3 (by simp) fun h4 s4 b4 e4 => ?_
      have e5 : Ext [] h h4 := e3.trans e4 (by intro b hb hlt; simp at hb; omega)
      have k4 := e5.get hc.blk (by simp)
      simp only [nilW_some, addr_mk, rd_blk k4]
      refine ⟨some m, rfl, ?_⟩
      simp only [rd_blk b4]
      refine ⟨q.1.xmin, by simp, x, by simp, q.1.row, by simp, ?_⟩
      have m2 := hc.map.ext e5 (by simp)
      obtain ⟨es2, c2, g1, g2, g3⟩ := m2.put t ⟨q.1.xmin, x, q.1.row⟩
      refine ⟨m, es2, c2, rfl, g1, g2, ?_⟩
      have hmr : m ≠ r := ne_cells g1 k4 (by simp)
      refine setI g1 fun h6 s6 k6 e6 => ?_
      have g3 := g3 h6 k6
      have e7 : Ext [m, r] h h6 := (e5.mono (by simp)).trans e6 (by simp)
      refine hQ h6 ⟨⟨aput C t (⟨q.1.xmin, x, q.1.row⟩, q.2), ⟨e6.get k4 (by simpa using hmr.symm), ?_, ?_, ?_⟩, ?_⟩, hr.nx, ?_, ?_, ?_⟩ e7
      · rw [← aput_amap]; exact g3
      · intro w hw
        rcases mem_aput hw with e | e
        · subst e
          exact (hc.rows _ (afind_mem hcf)).ext e7 (rel_other hr)
        · exact (hc.rows _ e).ext e7 (rel_other hr)
      · intro w hw
        rcases mem_aput hw with e | e
        · subst e
          have hsm := hc.small _ (afind_mem hcf); exact hsm
        · exact hc.small _ e
      · simp only [RelM.del, RelM.get, hf, hT, Option.map_some, Option.getD_some]
        rw [← aput_amap]
        rfl
      · exact aput_nodup hr.nd _ _
      · intro k hk
        simp only [RelM.del, keys_aput] at hk
        split at hk
        · exact hr.lt k hk
        · rename_i hno
          exfalso
          have := afind_none R.T t
          unfold RelM.find at hf
          rw [hf] at this
          have := this.2 hno
          simp at this
      · have := hr.len
        simp only [RelM.del, aput_length]
        rw [if_pos]
        · exact this
        · apply Classical.byContradiction
          intro hno
          have h1 := (afind_none R.T t).2 hno
          unfold RelM.find at hf
          rw [hf] at h1
          simp at h1
theorem Get_s (hr : IsRel h r m R) {t : Int} (hQ : ∀ h' s, Ext [] h h' → RowAt h' s (R.get t).row → s.n = (R.get t).row.length → s.n ≤ 2 ^ 20 → Q [.agg #[.int .i64 (R.get t).xmin, .int .i64 (R.get t).xmax, .slice s.a s.n s.c], .bool (R.find t).isSome] h') :
    S_heap_Rel_Get (some ⟨r, 0, none⟩) t h Q := by
  refine O_heap_Rel_Get _ _ ?_
  unfold F_heap_Rel_Get
  refine newI fun h1 s1 b1 e1 => ?_
  refine rget_s (hr.ext0 e1) fun h2 s e2 hs hn => ⟨_, _, s, _, rfl, ?_⟩
  refine varI rfl rfl fun h3 s3 b3 e3 => ?_
  refine ⟨s, by simp [rd_blk b3], ?_⟩
  refine Clone_s (hs.ext0 e3).reads hn fun h4 s' hs' hn' e4 => ⟨s', rfl, ?_⟩
  have b4 := e4.get b3 (by simp)
  have c1 := ((e2.trans0 e3).trans0 e4).get b1 (by simp)
  have lt1 : h.size < h2.size := by have := e2.sz; omega
  simp only [addr_mk]
  refine st_blk b4 (by simp) fun h5 s5 b5 e5 => ?_
  have c5 := e5.get c1 (by simp; omega)
  refine ⟨_, by simp [rd_blk b5]; rfl, _, by simp [rd_blk b5]; rfl, s', by simp [rd_blk b5], ?_⟩
  refine st_blk c5 (by simp) fun h6 s6 b6 e6 => ?_
  refine ⟨_, by simp [rd_blk b6]; rfl, _, by simp [rd_blk b6]; rfl, s', by simp [rd_blk b6], ?_⟩
  have e7 : Ext [] h h6 := ((((e1.trans0 e2).trans0 e3).trans0 e4).trans e5 (by intro b hb hlt; simp at hb; omega)).trans e6 (by intro b hb hlt; simp at hb; omega)
  have hn2 : s'.n = s.n := hn'
  refine hQ h6 s' e7 ?_ hs'.1 (by omega)
  have o5 : Other T_api_Value h4 [h2.size] := Other.one b4 (by intro c fz e; simp [T_api_Tuple, T_api_Value] at e)
  have o6 : Other T_api_Value h5 [h.size] := Other.one c5 (by intro c fz e; simp [T_api_Tuple, T_api_Value] at e)
  exact (hs'.ext e5 o5).ext e6 o6
theorem row_one (h : Hp) (n : Int) : RowAt (h.push (Obj.cells #[(Value.int .i64 (2 : Int)), (Value.int .i64 n), (Value.float .f64 0), (Value.string (ByteArray.mk #[]))] T_api_Value)) ⟨some ⟨h.size, 0, none⟩, 1, 1⟩ [⟨2, n, 0, ByteArray.mk #[]⟩] := by
  refine ⟨rfl, fun e => (by cases e), fun a ha => ?_⟩
  cases ha
  exact ⟨_, 0, _, _, rfl, push_get _ _, by simp, by simp [encV]⟩
theorem one9_s {n : Int} (hQ : ∀ h' s, RowAt h' s [⟨2, n, 0, ByteArray.mk #[]⟩] → s.n = 1 → Ext [] h h' → Q [.slice s.a s.n s.c] h') : S_liverylaw09_one n h Q := by
  refine O_liverylaw09_one _ ?_
  unfold F_liverylaw09_one
  rw [wthE]
  exact hQ _ _ (row_one h n) rfl (Ext.push _ _ _)
theorem Ints_s {a b : Sl} {xs ys : List Int} (ha : IntsAt h a xs) (hb : IntsAt h b ys) (hlen : xs.length < 2 ^ 60) (hQ : Q [.bool (xs == ys)] h) : S_liverykeep_Ints a b h Q := by
  refine O_liverykeep_Ints _ _ ?_
  unfold F_liverykeep_Ints
  have h1 := ha.1
  have h2 := hb.1
  by_cases hl : xs.length = ys.length
  · rw [if_neg (by simp; omega)]
    intro X hX
    have key : ∀ k i, k + i = xs.length → (∀ j, j < i → xs[j]? = ys[j]?) → X [.int .i64 (i : Int)] h := by
      intro k
      induction k with
      | zero =>
        intro i hi heq
        refine hX _ _ ?_
        rw [if_neg (by simp; omega)]
        have : xs = ys := by
          apply List.ext_getElem?
          intro j
          rcases Nat.lt_or_ge j i with g | g
          · exact heq j g
          · rw [List.getElem?_eq_none (by omega), List.getElem?_eq_none (by omega)]
        rw [this] at hQ
        simpa using hQ
      | succ k ih =>
        intro i hi heq
        refine hX _ _ ?_
        rw [if_pos (by simp; omega)]
        obtain ⟨b1, o1, g1, g2⟩ := ha.rd (by simp) (i := i) (by omega)
        obtain ⟨b2, o2, g3, g4⟩ := hb.rd (by simp) (i := i) (by omega)
        rw [g1, g3]
        simp only [nilW_some, addr_mk, Int.toNat_natCast]
        refine ⟨by omega, by omega, xs[i]'(by omega), by simpa using g2 0 (by omega), by omega, by omega, ys[i]'(by omega), by simpa using g4 0 (by omega), ?_⟩
        by_cases e : xs[i]'(by omega) = ys[i]'(by omega)
        · rw [if_neg (by simp [e])]
          rw [wrap64 (by omega) (by omega)]
          refine ih (i + 1) (by omega) ?_
          intro j hj
          rcases (by omega : j < i ∨ j = i) with g | g
          · exact heq j g
          · subst g
            rw [List.getElem?_eq_getElem (by omega), List.getElem?_eq_getElem (by omega), e]
        · rw [if_pos (by simp [e])]
          have : (xs == ys) = false := by
            rw [beq_eq_false_iff_ne]
            intro e2
            subst e2
            exact e rfl
          rw [this] at hQ
          exact hQ
    have := key xs.length 0 (by omega) (by intro j hj; omega)
    simpa using this
  · rw [if_pos (by simp; omega)]
    have : (xs == ys) = false := by
      rw [beq_eq_false_iff_ne]
      intro e2
      subst e2
      exact hl rfl
    rw [this] at hQ
    exact hQ
end
end Go.Lift

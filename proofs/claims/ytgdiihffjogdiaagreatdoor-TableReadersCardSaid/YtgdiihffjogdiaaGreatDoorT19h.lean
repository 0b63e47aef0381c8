/- The store's relations and indexes made. -/
import Derived.Test.YtgdiihffjogdiaaGreatDoorT19e
set_option linter.unusedSimpArgs false
set_option linter.unusedVariables false
namespace Go.Lift.X
open Go Go.Proofs Go.RowKit
section
variable {lo lo' : Nat} {h : Hp} {x : Nat} {M : LeafM} {ls : Sl} {C : List OneC}
theorem LeafAt.low (hl : LeafAt lo h x M ls C) (h1 : lo' ≤ lo) : LeafAt lo' h x M ls C :=
  ⟨hl.blk, Nat.le_trans h1 hl.le, hl.ptrs.mono h1, hl.nd, fun c hc => have q := hl.ones c hc; ⟨q.blk, Nat.le_trans h1 q.le, q.keys.mono h1⟩, hl.sep, hl.mods⟩
theorem fp_ge (hl : LeafAt lo h x M ls C) {b : Nat} (hb : Fp x ls C b) : lo ≤ b := by
  rcases hb with rfl | hb | ⟨c, hc, hb⟩
  · exact hl.le
  · exact hl.ptrs.blk b hb
  · rcases hb with rfl | hb
    · exact (hl.ones c hc).le
    · exact (hl.ones c hc).keys.blk b hb
end
end Go.Lift.X
namespace Go.Lift.T
open Go Go.Proofs Go.RowKit Go.Lift.E14
set_option maxRecDepth 100000
section
variable {o o' : Nat → Prop} {h h' : Hp}
theorem HpP.mono {r : Nat} {R : RelM} (hP : HpP r R o h) (ho : ∀ b, o b → o' b) (hl : ∀ b, o' b → b < h.size) : HpP r R o' h := by
  obtain ⟨⟨m, C, hc, hT⟩, hR⟩ := hP
  exact ⟨⟨m, C, ⟨hc.blk, hc.map, fun p hp => ⟨(hc.rows p hp).1, (hc.rows p hp).2.1, fun b hb => ho b ((hc.rows p hp).2.2 b hb)⟩, ho _ hc.ir, ho _ hc.im, hl⟩, hT⟩, hR⟩
theorem IxP.new {lo : Nat} {x : Nat} {M : X.LeafM} (hx : X.Ix lo (fun _ => False) h x M) (hlo : ∀ b, gl o h b → b < lo) (hl : ∀ b, o b → b < h.size) (h1 : 2 ≤ lo) : IxP x M o h := by
  obtain ⟨q, ⟨v1, v2, ls, C, v3, v4⟩, hb, hn, hle⟩ := hx
  refine ⟨hl, q, ⟨fun b hb => ?_, by omega, ls, C, v3.low h1, fun b hb hg => ?_⟩, hb, fun g => by have := hlo _ g; omega, by omega⟩
  · rcases hb with g | g
    · exact g.1
    · subst g
      exact blk_lt (by assumption)
  · rcases hg with g | g
    · have := hlo _ g
      have := X.fp_ge v3 hb
      omega
    · exact v4 b hb (Or.inr g)
theorem gl_old {o : Nat → Prop} (hz : h.size ≤ h'.size) {b : Nat} (hb : gl (nw o h h') h' b) : b < h.size := by
  rw [gl_nw hz] at hb
  exact hb.1
theorem nw_lt {o : Nat → Prop} (ho : ∀ b, o b → b < h.size) (hz : h.size ≤ h'.size) {b : Nat} (hb : nw o h h' b) : b < h'.size := hb.elim (fun q => Nat.lt_of_lt_of_le (ho b q) hz) fun q => q.2
end
theorem app_ne {α : Type} {R : List α} {r : α} {n : Nat} (hn : n ≠ R.length) : (R ++ [r])[n]? = R[n]? := by
  rw [List.getElem?_append]
  split
  · rfl
  · rw [List.getElem?_eq_none (l := R) (by omega), List.getElem?_eq_none (by simp only [List.length_cons, List.length_nil]; omega)]
theorem app_eq {α : Type} (R : List α) (r : α) : (R ++ [r])[R.length]? = some r := by simp
def newC (rb hr : Nat) : RC := ⟨rb, hr, ⟨[], 0⟩, []⟩
section
variable {NP : Part} {G : Nat → Prop} {h : Hp} {C : TC} {Q : List Value → Hp → Prop}
theorem NewRel_t (hT : Tb NP G h C) (hQ : ∀ h' rb hr, (if C.R.length < 100 then Tb NP G h' { C with R := C.R ++ [newC rb hr] } else Tb NP G h' C) → KG G h h' → Q [.int .i64 (if C.R.length < 100 then (C.R.length : Int) + 1 else 0), .int .i64 (if C.R.length < 100 then 0 else 74)] h') : S_table_Store_NewRel (some ⟨C.s, 0, none⟩) h Q := by
  refine O_table_Store_NewRel _ ?_
  delta F_table_Store_NewRel rI rB rS rP rM rL vI vB vS vP vM vL vC vA ad nb gb wi bl bz tn isn sib pu oc
  rw [if_neg (by simp)]
  simp only [nilW_some]
  obtain ⟨es, hm, he⟩ := hT.st.2.mapAt
  have hsz : es.size = C.R.length := by rw [ents_size he, relsF_len]
  refine ⟨_, rdSt hT 4, es, hm, ?_⟩
  by_cases hful : C.R.length < 100
  rotate_left
  · rw [if_pos (by simp; omega)]
    have := hQ h 0 0 (by rw [if_neg hful]; exact hT) (KG.refl _ _)
    rw [if_neg hful, if_neg hful] at this
    exact this
  rw [if_neg (by simp; omega)]
  simp only [if_pos hful] at hQ
  refine ⟨_, rdSt hT 4, es, hm, _, rdSt hT 4, ?_⟩
  rw [wrap64 (by omega) (by omega)]
  refine HNew_t fun h1 hr hp e1 => ⟨some ⟨hr, 0, none⟩, rfl, ?_⟩
  refine ⟨by rw [addr_mk, rd_blk (e1.get hT.st.1 (by simp))]; rfl, ?_⟩
  -- the versions
  obtain ⟨o1, _, p1, H1⟩ := TbX.on hT (.hp C.R.length) nofun
  obtain ⟨hT1, k1⟩ := H1 (Y := updX (tX NP C) (.hp C.R.length) (HpP hr ⟨[], 0⟩)) (by rw [updX_k]; exact HpP.ok) (ks_ext e1 (by simp)) (by rw [updX_k]; exact hp.mono (fun b hb => hb.elim False.elim Or.inr) (fun b hb => nw_lt (fun b q => (p1 b q).1) e1.sz hb)) fun j hj => updX_ne hj
  -- the relation
  refine newI fun h2 s2 b2 e2 => ?_
  obtain ⟨o2, _, p2, H2⟩ := TbX.on hT1 (.rl C.R.length) nofun
  have z2 := e2.sz
  obtain ⟨hT2, k2⟩ := H2 (Y := updX (updX (tX NP C) (.hp C.R.length) (HpP hr ⟨[], 0⟩)) (.rl C.R.length) (RlP (newC h1.size hr))) (by rw [updX_k]; exact RlP.ok) (ks_ext e2 (by simp)) (by
      rw [updX_k]
      exact ⟨fun b hb => nw_lt (fun b q => (p2 b q).1) z2 hb, Or.inr ⟨by simp [newC], by simp [newC]; omega⟩, ⟨none, 0, 0⟩, b2, Own.nil _ _, by simp [sBlk], by simp [newC], by simp [newC]⟩) fun j hj => updX_ne hj
  -- the map
  have est : updX (updX (tX NP C) (.hp C.R.length) (HpP hr ⟨[], 0⟩)) (.rl C.R.length) (RlP (newC h1.size hr)) .st = StP C := by rw [updX_ne (by nofun), updX_ne (by nofun)]; rfl
  obtain ⟨o3, q3, p3, H3⟩ := TbX.on hT2 .st nofun
  rw [est] at q3
  obtain ⟨i1, i2, i3, i4⟩ := q3
  refine ⟨by rw [addr_mk, rd_blk i3]; rfl, ?_⟩
  obtain ⟨es3, c3, g1, g2, g3⟩ := i4.put ((C.R.length : Int) + 1) h1.size
  rw [hsz]
  refine ⟨C.rm, es3, c3, rfl, g1, g2, ?_⟩
  refine setI g1 fun h4 s4 k4 e4 => ?_
  have g3 := g3 h4 k4
  have hnin : ((C.R.length : Int) + 1) ∉ (relsF 0 C.R).map Prod.fst := by
    rw [← afind_none, relsF_at]
    unfold relAt
    rw [if_pos (by omega), List.getElem?_eq_none (by omega)]
    rfl
  rw [aput_new hnin] at g3
  have hrs : C.rm ≠ C.s := fun e => by rw [e] at g1; have := i3.symm.trans g1; simp at this
  obtain ⟨hT3, k3⟩ := H3 (h' := h4) (Y := tX NP { C with R := C.R ++ [newC h1.size hr] }) (tX_ok (hT.1 .nm) _) (ks_ext e4 fun b hb _ => by simp at hb; subst hb; exact i2)
    (by
      refine ⟨Or.inl i1, Or.inl i2, e4.get i3 (by simpa using Ne.symm hrs), ?_⟩
      show IsMap encI pt h4 C.rm (relsF 0 (C.R ++ [newC h1.size hr]))
      rw [relsF_app, Nat.zero_add]
      exact g3) fun j hj => by
      have hlen : C.R[C.R.length]? = none := List.getElem?_eq_none (Nat.le_refl _)
      cases j with
      | no => rw [updX_ne (by nofun), updX_ne (by nofun)]; rfl
      | st => exact absurd rfl hj
      | ss => rw [updX_ne (by nofun), updX_ne (by nofun)]; rfl
      | nm => rw [updX_ne (by nofun), updX_ne (by nofun)]; rfl
      | rl n =>
        by_cases e : n = C.R.length
        · subst e
          rw [updX_k]
          simp only [tX, app_eq, oP]
        · rw [updX_ne (by simpa using e), updX_ne (by nofun)]
          simp only [tX, app_ne e]
      | hp n =>
        by_cases e : n = C.R.length
        · subst e
          rw [updX_ne (by nofun), updX_k]
          simp only [tX, app_eq, oP, newC]
        · rw [updX_ne (by nofun), updX_ne (by simpa using e)]
          simp only [tX, app_ne e]
      | ix n j =>
        rw [updX_ne (by nofun), updX_ne (by nofun)]
        by_cases e : n = C.R.length
        · subst e
          simp only [tX, entAt, app_eq, hlen, newC]
          rfl
        · simp only [tX, entAt, app_ne e]
  exact hQ h4 h1.size hr hT3 ((k1.trans k2).trans k3)
end
end Go.Lift.T
namespace Go.Lift.T
open Go Go.Proofs Go.RowKit Go.Lift.E14
set_option maxRecDepth 100000
section
variable {NP : Part} {G : Nat → Prop} {h : Hp} {C : TC} {Q : List Value → Hp → Prop}
theorem lock_t (hQ : ∀ h' b, Ext [] h h' → Q [pt b] h') : S_lock_New h Q := by
  refine O_lock_New ?_
  delta F_lock_New rI rB rS rP rM rL vI vB vS vP vM vL vC vA ad nb gb wi bl bz tn isn sib pu oc
  exact newI fun h1 s1 b1 e1 => newI fun h2 s2 b2 e2 => hQ h2 h1.size (e1.trans0 e2)
/-- Names may be known, or not. -/
def NameNew (NPf : Nat → Part) : Prop := (∀ b, PartOK (NPf b)) ∧ ∀ (g : Hp) (K : List Value → Hp → Prop), (∀ g' b, (∀ o' : Nat → Prop, (∀ x, g.size ≤ x → x < g'.size → o' x) → (∀ x, o' x → x < g'.size) → NPf b o' g') → Ext [] g g' → K [pt b] g') → S_name_New g K
theorem nameNew_any : NameNew fun _ _ _ => True := ⟨fun _ _ _ _ _ _ _ => trivial, fun g K hK => by
  refine O_name_New ?_
  delta F_name_New rI rB rS rP rM rL vI vB vS vP vM vL vC vA ad nb gb wi bl bz tn isn sib pu oc
  exact newI fun h1 s1 b1 e1 => newI fun h2 s2 b2 e2 => hK h2 h1.size (fun _ _ _ => trivial) (e1.trans0 e2)⟩
abbrev newT (s rm ss cb t e nmb lkb : Nat) (each all keep fan : Int) : TC := ⟨s, rm, ss, cb, t, e, nmb, lkb, newM each all keep, [], fan⟩
theorem New_t {NPf : Nat → Part} (hN : NameNew NPf) {each all keep fan : Int} (he : 1 ≤ each ∧ each ≤ 10000) (ha : 1 ≤ all ∧ all ≤ 10000) (hk : 0 ≤ keep ∧ keep ≤ 1000) (hf : 2 ≤ fan ∧ fan ≤ 64) (hG : ∀ b, G b → b < h.size)
    (hQ : ∀ h' s rm ss cb t e nmb lkb, Tb (NPf nmb) G h' (newT s rm ss cb t e nmb lkb each all keep fan) → Ext [] h h' → Q [pt s, .int .i64 0] h') : S_table_New each all keep fan h Q := by
  refine O_table_New _ _ _ _ ?_
  delta F_table_New rI rB rS rP rM rL vI vB vS vP vM vL vC vA ad nb gb wi bl bz tn isn sib pu oc
  refine New08_s fun h1 cb c1 e1 _ => ⟨_, rfl, ?_⟩
  have hcb := c1.lt
  refine New_z (G := fun b => b < h.size) he ha hk c1 (fun b hb => ⟨by have := e1.sz; omega, by omega⟩) fun h2 ss t e s2 e2 => ⟨_, _, rfl, ?_⟩
  have e02 := e1.trans0 e2
  rw [if_neg (by decide)]
  intro J hJ
  have T0 : TbX (fun _ _ _ => True) G h := ⟨fun _ _ _ _ _ _ _ => trivial, fun _ => .no, fun b hb => ⟨hG b hb, rfl⟩, fun _ _ => trivial⟩
  obtain ⟨o1, _, p1, H1⟩ := TbX.on T0 .ss nofun
  obtain ⟨T1, k1⟩ := H1 (Y := updX (fun _ _ _ => True) .ss (SsP ss cb t e (newM each all keep))) (by rw [updX_k]; exact SsP.ok) (ks_ext e02 (by simp)) (by
    rw [updX_k]
    exact ⟨fun b hb => nw_lt (fun b q => (p1 b q).1) e02.sz hb, s2.less fun b hb => gl_old e02.sz hb⟩) fun j hj => updX_ne hj
  have fin : J [.bool false] h2 := by
    refine hJ _ _ ?_
    rw [if_neg (by decide)]
    refine hN.2 h2 _ fun h3 nb n3 e3 => ⟨_, rfl, ?_⟩
    obtain ⟨o2, _, p2, H2⟩ := TbX.on T1 .nm nofun
    obtain ⟨T2, k2⟩ := H2 (Y := updX (updX (fun _ _ _ => True) .ss (SsP ss cb t e (newM each all keep))) .nm (NPf nb)) (by rw [updX_k]; exact hN.1 _) (ks_ext e3 (by simp)) (by
      rw [updX_k]
      exact n3 _ (fun x h1 h2 => Or.inr ⟨h1, h2⟩) fun x hx => nw_lt (fun b q => (p2 b q).1) e3.sz hx) fun j hj => updX_ne hj
    refine lock_t fun h4 lk e4 => ⟨_, rfl, ?_⟩
    have T3 := T2.e0 e4
    refine newI fun h5 s5 b5 e5 => newI fun h6 s6 b6 e6 => ?_
    have e46 := e5.trans0 e6
    obtain ⟨o3, _, p3, H3⟩ := TbX.on T3 .st nofun
    obtain ⟨T4, k4⟩ := H3 (h' := h6) (Y := tX (NPf nb) (newT h5.size h4.size ss cb t e nb lk each all keep fan)) (tX_ok (hN.1 _) _) (ks_ext e46 (by simp))
      ⟨Or.inr ⟨(by show h4.size ≤ h5.size; omega), (by show h5.size < h6.size; omega)⟩, Or.inr ⟨Nat.le_refl _, (by show h4.size < h6.size; omega)⟩, b6, ⟨#[], 0, e6.get b5 (by simp), rfl, Born.nil 0⟩⟩ fun j hj => by
        cases j with
        | no => rw [updX_ne (by nofun), updX_ne (by nofun)]; rfl
        | st => exact absurd rfl hj
        | ss => rw [updX_ne (by nofun), updX_k]; rfl
        | nm => rw [updX_k]; rfl
        | rl n => rw [updX_ne (by nofun), updX_ne (by nofun)]; rfl
        | hp n => rw [updX_ne (by nofun), updX_ne (by nofun)]; rfl
        | ix n j => rw [updX_ne (by nofun), updX_ne (by nofun)]; rfl
    exact hQ h6 _ _ ss cb t e nb lk T4 (((e02.trans0 e3).trans0 e4).trans0 e46)
  rw [if_neg (by simp; omega)]
  rw [decide_eq_false (by omega)]
  exact fin
def modC (C : TC) (n : Nat) (f : RC → RC) : TC := { C with R := C.R.modify n f }
def addC (e : EC) (r : RC) : RC := { r with es := r.es ++ [e] }
theorem modC_at {C : TC} {n : Nat} {f : RC → RC} (m : Nat) : (modC C n f).R[m]? = if m = n then C.R[m]?.map f else C.R[m]? := by
  unfold modC
  simp only [List.getElem?_modify]
  by_cases e : n = m
  · subst e; simp
  · rw [if_neg (Ne.symm e)]; cases C.R[m]? <;> simp [e]
theorem modC_rb {C : TC} {n : Nat} {f : RC → RC} (hf : ∀ r, (f r).rb = r.rb) : relsF 0 (modC C n f).R = relsF 0 C.R := by
  refine relsF_same _ _ 0 ?_
  apply List.ext_getElem?
  intro m
  rw [List.getElem?_map, List.getElem?_map, modC_at]
  split
  · rw [Option.map_map]
    congr 1
    funext r
    exact hf r
  · rfl
/-- Parts that another relation's change leaves as they are. -/
theorem tX_mod {C : TC} {n : Nat} {f : RC → RC} (hf : ∀ r, (f r).rb = r.rb) {j : Tg} (h1 : ∀ r, C.R[n]? = some r → j = .rl n → RlP (f r) = RlP r) (h2 : ∀ r, C.R[n]? = some r → j = .hp n → HpP (f r).hr (f r).hp = HpP r.hr r.hp)
    (h3 : ∀ r k, C.R[n]? = some r → j = .ix n k → oP (fun e : EC => IxP e.ix e.lf) (f r).es[k]? = oP (fun e : EC => IxP e.ix e.lf) r.es[k]?) : tX NP (modC C n f) j = tX NP C j := by
  cases j with
  | no => rfl
  | st =>
    show StP _ = StP _
    unfold StP
    rw [modC_rb hf]
    rfl
  | ss => rfl
  | nm => rfl
  | rl m =>
    simp only [tX, modC_at]
    split
    · rename_i e
      subst e
      cases hr : C.R[m]? with
      | none => rfl
      | some r => simpa [oP] using h1 r hr rfl
    · rfl
  | hp m =>
    simp only [tX, modC_at]
    split
    · rename_i e
      subst e
      cases hr : C.R[m]? with
      | none => rfl
      | some r => simpa [oP] using h2 r hr rfl
    · rfl
  | ix m k =>
    simp only [tX, entAt, modC_at]
    split
    · rename_i e
      subst e
      cases hr : C.R[m]? with
      | none => rfl
      | some r => simpa using h3 r k hr rfl
    · rfl
abbrev lf0 (fan : Int) : X.LeafM := ⟨fan, 2, [⟨1, ByteArray.mk #[], []⟩]⟩
theorem add_t (hT : Tb NP G h C) (hg : 2 ≤ h.size) (hf : 2 ≤ C.fan ∧ C.fan ≤ 64) {n : Nat} {r : RC} (hr : C.R[n]? = some r) (hlen : r.es.length < 2 ^ 30) (nm col : ByteArray) (uq : Bool) (st mr dr : Int)
    (hQ : ∀ h' eb ix, Tb NP G h' (modC C n (addC ⟨eb, ix, nm, col, uq, st, mr, dr, lf0 C.fan⟩)) → KG G h h' → Q [.int .i64 0] h') : S_table_Store_add (some ⟨C.s, 0, none⟩) (some ⟨r.rb, 0, none⟩) nm col uq st mr dr h Q := by
  refine O_table_Store_add _ _ _ _ _ _ _ _ ?_
  delta F_table_Store_add rI rB rS rP rM rL vI vB vS vP vM vL vC vA ad nb gb wi bl bz tn isn sib pu oc
  refine newI fun h1 s1 b1 e1 => ?_
  have T1 := TbX.e0 hT e1
  simp only [nilW_some]
  refine ⟨_, rdSt T1 5, ?_⟩
  refine X.New_i hf fun h2 ix i2 e2 => ⟨_, _, rfl, ?_⟩
  obtain ⟨o1, _, p1, H1⟩ := TbX.on T1 (.ix n r.es.length) nofun
  have z2 := e2.sz
  have P2 : IxP ix (lf0 C.fan) (nw o1 h1 h2) h2 := IxP.new i2 (fun b hb => gl_old z2 hb) (fun b hb => nw_lt (fun b q => (p1 b q).1) z2 hb) (by omega)
  obtain ⟨T2, k2⟩ := H1 (Y := updX (tX NP C) (.ix n r.es.length) (IxP ix (lf0 C.fan))) (by rw [updX_k]; exact IxP.ok) (ks_ext e2 (by simp)) (by rw [updX_k]; exact P2) fun j hj => updX_ne hj
  intro J hJ
  rw [if_pos (by decide)]
  obtain ⟨o2, q2, p2, H2⟩ := TbX.on T2 (.rl n) nofun
  rw [updX_ne (by nofun)] at q2
  simp only [tX, hr, oP] at q2
  obtain ⟨a1, a2, l, a3, a4, a5, a6, a7⟩ := q2
  refine ⟨l, by rw [addr_mk, rd_blk a3]; rfl, ?_⟩
  have b2 := e2.get b1 (by simp)
  refine ⟨nm, by rw [addr_mk, rd_blk b2]; rfl, col, by rw [addr_mk, rd_blk b2]; rfl, uq, by rw [addr_mk, rd_blk b2]; rfl, st, by rw [addr_mk, rd_blk b2]; rfl, mr, by rw [addr_mk, rd_blk b2]; rfl, dr, by rw [addr_mk, rd_blk b2]; rfl, ?_⟩
  refine newI fun h3 s3 b3 e3 => ?_
  have a33 := e3.get a3 (by simp)
  refine ⟨by rw [addr_mk, rd_blk a33]; rfl, ?_⟩
  have z3 := e3.sz
  have hnl := a4.1
  refine newI fun h4 s4 b4 e4 => ?_
  refine ⟨by rw [addr_mk, rd_blk (e4.get a33 (by simp))]; rfl, ?_⟩
  have own4 := (a4.ext0 e3).ext0 e4
  have z4 := e4.sz
  refine ⟨[pt h2.size], ?_, ?_⟩
  · have := cellsAt_blk b4 (o := 0) (n := 1 * 1) (by simp)
    simpa using this
  refine app_own (xs := r.es) (ys := [⟨h2.size, ix, nm, col, uq, st, mr, dr, lf0 C.fan⟩]) own4 (by kernel_rfl) (fun _ => rfl) (fun x _ => encPt_one x) (by simp) rfl (by show (l.n + 1) * 8 ≤ 2 ^ 47; omega) (by show l.n + 1 ≤ 2 ^ 47; omega) (Nat.zero_le _) fun l' h5 o5 e5 _ hb5 => ?_
  have z5 := e5.sz
  have a35 : Blk h5 r.rb #[pt r.hr, .slice l.a l.n l.c] T_table_rel := e5.get (e4.get a33 (by simp)) fun hm => (a5 _ hm).2.1 rfl
  rw [addr_mk]
  refine st_blk a35 (by simp) fun h6 s6 b6 e6 => ?_
  have own5 := own_ltG o5
  have blt : ∀ b ∈ sBlk l', b ≠ r.rb := fun b hb e => by
    subst e
    rcases hb5 _ hb with g | g
    · exact (a5 _ g).2.1 rfl
    · have := a1 _ a2
      omega
  have hks : Ks o2 h2 h6 := (ks_ext ((e3.trans0 e4).mono (S' := []) (by simp)) (by simp)).trans ((ks_ext (o := o2) e5 fun b hb _ => (a5 b hb).1).trans (ks_ext (o := o2) e6 fun b hb _ => by simp at hb; subst hb; exact a2) fun _ _ q => q) fun _ _ q => q
  have key : RlP (addC ⟨h2.size, ix, nm, col, uq, st, mr, dr, lf0 C.fan⟩ r) (nw o2 h2 h6) h6 := by
    refine ⟨fun b hb => nw_lt a1 (by omega) hb, Or.inl a2, l', (by have q := b6; simp only [putAt, addC] at q ⊢; exact q), own_kg o5 fun b hb => e6.old b (own5 b hb).2 (by simpa using blt b hb), fun b hb => ⟨?_, blt b hb, fun e he => ?_⟩, fun e he => ?_, ?_⟩
    · rcases hb5 b hb with g | g
      · exact Or.inl (a5 b g).1
      · exact Or.inr ⟨by omega, by have := (own5 b hb).2; omega⟩
    · rcases List.mem_append.1 he with g | g
      · rcases hb5 b hb with q | q
        · exact (a5 b q).2.2 e g
        · intro eq
          have := a1 _ (a6 e g).1
          omega
      · simp at g
        subst g
        rcases hb5 b hb with q | q
        · intro eq
          have := a1 _ (a5 b q).1
          simp only at eq
          omega
        · simp only
          omega
    · rcases List.mem_append.1 he with g | g
      · refine ⟨Or.inl (a6 e g).1, (a6 e g).2.1, ?_⟩
        refine e6.get (e5.get (e4.get (e3.get (a6 e g).2.2 (by simp)) (by simp)) fun hm => (a5 _ hm).2.2 e g rfl) ?_
        simpa using (a6 e g).2.1
      · simp at g
        subst g
        have lt2 := a1 _ a2
        refine ⟨Or.inr ⟨Nat.le_refl _, (by show h2.size < h6.size; omega)⟩, (by show h2.size ≠ r.rb; omega), ?_⟩
        refine e6.get (e5.get (e4.get b3 (by simp)) fun hm => ?_) ?_
        · have := a1 _ (a5 _ hm).1
          simp only at this
          omega
        · show h2.size ∉ [r.rb]
          simp
          omega
    · simp only [addC, List.map_append, List.map_cons, List.map_nil]
      rw [List.nodup_append]
      refine ⟨a7, by simp, fun x hx y hy => ?_⟩
      simp at hy
      subst hy
      obtain ⟨e, he, rfl⟩ := List.mem_map.1 hx
      have := a1 _ (a6 e he).1
      omega
  obtain ⟨T3, k3⟩ := H2 (h' := h6) (Y := tX NP (modC C n (addC ⟨h2.size, ix, nm, col, uq, st, mr, dr, lf0 C.fan⟩))) (tX_ok (hT.1 .nm) _) hks (by
      simp only [tX, modC_at, if_true, hr, Option.map_some, oP]
      exact key) fun j hj => by
    by_cases ej : j = .ix n r.es.length
    · subst ej
      rw [updX_k]
      simp [tX, entAt, modC_at, hr, addC, oP]
    · rw [updX_ne ej]
      refine tX_mod (f := addC _) (fun _ => rfl) (fun r' _ e => absurd e hj) (fun _ _ _ => rfl) fun r' k hr' e => ?_
      rw [hr] at hr'
      obtain rfl := Option.some.inj hr'
      have : k ≠ r.es.length := fun q => ej (by rw [e, q])
      simp only [addC, app_ne this]
  refine hJ _ ?_
  have kk := (hT.kg e1).trans (k2.trans k3)
  exact hQ h6 _ _ T3 kk
end
end Go.Lift.T
namespace Go.Lift.T
open Go Go.Proofs Go.RowKit Go.Lift.E14
set_option maxRecDepth 100000
section
variable {NP : Part} {G : Nat → Prop} {h : Hp} {C : TC} {Q : List Value → Hp → Prop}
abbrev colAt (cl : List N.ColM) (nm : ByteArray) : Int := N.idxP (fun d : N.ColM => decide (d.name = nm)) cl 0
/-- What a new index comes to. -/
def makeE (C : TC) (xid n : Int) (nm col : ByteArray) (cl : List N.ColM) : Int :=
  if relAt C.R n = none ∨ (txL C.M.L xid).state ≠ 1 then 1 else if (getM C n nm).isSome = true then 63 else if 4 ≤ (standR C n).length then 3 else if colAt cl col < 0 then 61 else 0
theorem Make_t (hT : Tb NP G h C) (hf : FewE C) (hg : 2 ≤ h.size) (hfan : 2 ≤ C.fan ∧ C.fan ≤ 64) (xid n : Int) (nm col : ByteArray) (uq : Bool) (st : Int) {s : Sl} {cl : List N.ColM} (hs : Reads 7 N.encC h s cl) (hl : cl.length ≤ 2 ^ 30)
    (hQ : ∀ h' eb ix, (if makeE C xid n nm col cl = 0 then Tb NP G h' (modC C (n - 1).toNat (addC ⟨eb, ix, nm, col, uq, st, xid, 0, lf0 C.fan⟩)) else Tb NP G h' C) → KG G h h' → Q [.int .i64 (makeE C xid n nm col cl)] h') : S_table_Store_Make (some ⟨C.s, 0, none⟩) xid n nm col uq st s h Q := by
  refine O_table_Store_Make _ _ _ _ _ _ _ _ ?_
  delta F_table_Store_Make rI rB rS rP rM rL vI vB vS vP vM vL vC vA ad nb gb wi bl bz tn isn sib pu oc
  refine newI fun h1 s1 b1 e1 => ?_
  have T1 := TbX.e0 hT e1
  refine rel_t T1 n ?_
  have rJ : ∀ {g : Hp}, Ext [] h1 g → ∀ k, rd g (Addr.add ⟨h.size, 0, none⟩ k) = (#[Value.string nm, .string col, .bool uq, .int .i64 st] : Array Value)[k]? := fun eg k => by rw [addr_mk, rd_blk (eg.get b1 (by simp)), Nat.zero_add]
  cases hr : relAt C.R n with
  | none =>
    refine ⟨none, rfl, ?_⟩
    have hm : makeE C xid n nm col cl = 1 := by unfold makeE; rw [if_pos (Or.inl hr)]
    rw [hm] at hQ
    simp only [show ¬ ((1 : Int) = 0) by decide, if_false] at hQ
    intro J hJ
    rw [if_pos (by rfl)]
    refine hJ _ _ ?_
    rw [if_pos rfl]
    exact hQ h1 0 0 T1 (hT.kg e1)
  | some r =>
    refine ⟨some ⟨r.rb, 0, none⟩, rfl, ?_⟩
    intro J hJ
    rw [if_neg (by simp)]
    simp only [nilW_some]
    refine ⟨_, rdSt T1 0, ?_⟩
    refine State_s (Tb.cl T1) xid fun h2 e2 => ⟨_, rfl, ?_⟩
    have T2 := TbX.e0 T1 e2
    by_cases hx : (txL C.M.L xid).state = 1
    rotate_left
    · rw [show ((txL C.M.L xid).state != 1) = true by simpa using hx]
      refine hJ _ _ ?_
      rw [if_pos rfl]
      have hm : makeE C xid n nm col cl = 1 := by unfold makeE; rw [if_pos (Or.inr hx)]
      rw [hm] at hQ
      simp only [show ¬ ((1 : Int) = 0) by decide, if_false] at hQ
      exact hQ h2 0 0 T2 (hT.kg (e1.trans0 e2))
    rw [show ((txL C.M.L xid).state != 1) = false by simp [hx]]
    refine hJ _ _ ?_
    rw [if_neg (by decide)]
    refine ⟨nm, rJ e2 0, ?_⟩
    refine get_t T2 hf n nm fun h3 e3 => ?_
    have T3 := TbX.e0 T2 e3
    have e13 := e2.trans0 e3
    have mk0 : makeE C xid n nm col cl = if (getM C n nm).isSome = true then 63 else if 4 ≤ (standR C n).length then 3 else if colAt cl col < 0 then 61 else 0 := by
      unfold makeE
      rw [if_neg (by rw [hr]; simp [hx])]
    cases hgm : getM C n nm with
    | some e =>
      refine ⟨some ⟨e.eb, 0, none⟩, rfl, ?_⟩
      rw [if_pos (by rfl)]
      simp only [hgm, Option.isSome_some, if_true] at mk0
      rw [mk0] at hQ
      simp only [show ¬ ((63 : Int) = 0) by decide, if_false] at hQ
      exact hQ h3 0 0 T3 (hT.kg (e1.trans0 e13))
    | none =>
      refine ⟨none, rfl, ?_⟩
      rw [if_neg (by decide)]
      simp only [hgm, Option.isSome_none, Bool.false_eq_true, if_false] at mk0
      refine standing_t T3 hf n fun h4 l e4 o4 => ⟨l, rfl, ?_⟩
      have T4 := TbX.e0 T3 e4
      have hln := o4.1
      by_cases h5 : 4 ≤ (standR C n).length
      · rw [if_pos (by simp; omega)]
        rw [if_pos h5] at mk0
        rw [mk0] at hQ
        simp only [show ¬ ((3 : Int) = 0) by decide, if_false] at hQ
        exact hQ h4 0 0 T4 (hT.kg ((e1.trans0 e13).trans0 e4))
      · rw [if_neg (by simp; omega)]
        rw [if_neg h5] at mk0
        have e14 := e13.trans0 e4
        refine ⟨col, rJ e14 1, ?_⟩
        refine N.Find_s (hs.ext0 (e1.trans0 e14)) hl col fun h5 e5 => ⟨_, rfl, ?_⟩
        have T5 := TbX.e0 T4 e5
        have e15 := e14.trans0 e5
        by_cases h6 : colAt cl col < 0
        · rw [if_pos (by simpa using h6)]
          rw [if_pos h6] at mk0
          rw [mk0] at hQ
          simp only [show ¬ ((61 : Int) = 0) by decide, if_false] at hQ
          exact hQ h5 0 0 T5 (hT.kg (e1.trans0 e15))
        · rw [if_neg (by simpa using h6)]
          rw [if_neg h6] at mk0
          rw [mk0] at hQ
          simp only [if_true] at hQ
          refine ⟨nm, rJ e15 0, col, rJ e15 1, uq, rJ e15 2, st, rJ e15 3, ?_⟩
          have z := (e1.trans0 e15).sz
          exact add_t T5 (by omega) hfan (relAt_mem hr).1 (hf r (relAt_mem hr).2.1).1 nm col uq st xid 0 fun h6 eb ix T6 k6 => ⟨_, rfl, hQ h6 eb ix T6 ((hT.kg (e1.trans0 e15)).trans k6)⟩
end
abbrev defC (c : N.ColM) : X.V4 := ⟨c.dk, c.dn, c.df, c.ds⟩
/-- A row with as many values as there are columns. -/
def padM (cl : List N.ColM) (vs : List X.V4) : List X.V4 := cl.mapIdx fun i c => (vs[i]?).getD (defC c)
section
variable {h : Hp} {Q : List Value → Hp → Prop} {K : Hp → Prop}
theorem rdRow {r : Sl} {vs : List X.V4} (hr : RowIn h r vs) {i : Nat} (hi : i < vs.length) : ∃ a, r.a = some a ∧ ∀ k, k < 4 → rd h (Addr.add (Addr.add a (i * 4)) k) = (encV vs[i])[k]? := by
  obtain ⟨a, h1, h2⟩ := hr.rd encV_len hi
  exact ⟨a, h1, fun k hk => by rw [addr_add_add]; exact h2 k hk⟩
/-- A value at an address is read. -/
theorem rd4A {a : Addr} {v : X.V4} {P : Int → Int → Nat → ByteArray → Prop} (hr : ∀ k, k < 4 → rd h (Addr.add a k) = (encV v)[k]?) (H : P v.k v.n v.f v.s) :
    ∃ n3 : Int, rd h (Addr.add a 0) = some (.int .i64 n3) ∧ ∃ n4 : Int, rd h (Addr.add a 1) = some (.int .i64 n4) ∧ ∃ x5 : Nat, rd h (Addr.add a 2) = some (.float .f64 x5) ∧ ∃ s6 : ByteArray, rd h (Addr.add a 3) = some (.string s6) ∧ P n3 n4 x5 s6 :=
  ⟨_, hr 0 (by omega), _, hr 1 (by omega), _, hr 2 (by omega), _, hr 3 (by omega), H⟩
theorem Pad_t {s r : Sl} {cl : List N.ColM} {vs : List X.V4} (hs : Reads 7 N.encC h s cl) (hr : RowIn h r vs) (hl : cl.length ≤ 2 ^ 20) (hlr : vs.length ≤ 2 ^ 60) (hQ : ∀ h' l, Ext [] h h' → Own T_api_Value 4 encV h.size h' l (padM cl vs) → Q [.slice l.a l.n l.c] h') : S_row_Pad s r h Q := by
  refine O_row_Pad _ _ ?_
  delta F_row_Pad rI rB rS rP rM rL vI vB vS vP vM vL vC vA ad nb gb wi bl bz tn isn sib pu oc
  have hn := hs.1
  have hm := hr.1
  have hlen : (padM cl vs).length = cl.length := by simp [padM]
  intro Xl hX
  refine loopI2 (va := fun a : Sl => Value.slice a.a a.n a.c) cl.length (fun i a g => Ext [] h g ∧ Own T_api_Value 4 encV h.size g a ((padM cl vs).take i)) ?_ ?_ ⟨none, 0, 0⟩ h ⟨Ext.refl _ _, Own.nil _ _⟩
  · rintro a g ⟨eg, og⟩
    refine hX a _ _ ?_
    rw [if_neg (by simp; omega)]
    rw [List.take_of_length_le (by omega)] at og
    exact hQ g a eg og
  · rintro i a g hi ⟨eg, og⟩ hnext
    refine hX a _ _ ?_
    rw [if_pos (by simp; omega)]
    obtain ⟨ad, had, hrd⟩ := N.rdC (hs.ext0 eg) hi
    rw [had]
    simp only [nilW_some, Int.toNat_natCast]
    have hw : IntKind.wrap .i64 ((i : Int) + 1) = ((i + 1 : Nat) : Int) := by rw [wrap64 (by omega) (by omega)]; simp
    refine ⟨by omega, by omega, hrd _ ?_⟩
    refine varI rfl rfl fun g1 z1 b1 e1 => ?_
    have r1 : ∀ k, k < 4 → rd g1 (Addr.add (Addr.add ⟨g.size, 0, none⟩ 3) k) = (encV (defC cl[i]))[k]? := fun k hk => by
      rw [addr_mk, addr_mk, rd_blk b1]
      rcases k with _ | _ | _ | _ | k
      · rfl
      · rfl
      · rfl
      · rfl
      · omega
    refine rd4A r1 ?_
    refine newI fun g2 z2 b2 e2 => ?_
    refine X.put4 b2 rfl (defC cl[i]) fun g3 z3 b3 e3 => ?_
    have x3 : Ext [] g g3 := (e1.trans0 e2).trans e3 fun b hb hlt => by simp at hb; omega
    have hstep : ∀ v : X.V4, (vs[i]?).getD (defC cl[i]) = v → (padM cl vs).take (i + 1) = (padM cl vs).take i ++ [v] := fun v hv => by
      rw [List.take_succ_eq_append_getElem (by omega)]
      congr 2
      rw [← hv]
      simp [padM]
    intro J hJ
    have fin : ∀ (g4 : Hp) (v : X.V4), Ext [] g g4 → Blk g4 g1.size (X.cells4 v) T_api_Value → (vs[i]?).getD (defC cl[i]) = v → J [] g4 := fun g4 v x4 b4 hv => by
      refine hJ _ ?_
      refine X.rdV b4 ?_
      have og4 := og.ext0 x4
      have hold := own_ltG og4
      refine app1 (T := T_api_Value) (sz := 4) (enc := encV) og4 (x := v) rfl (by kernel_rfl) encV_len encV_one (by rw [List.length_take]; omega) (by omega) (by have := eg.sz; have := x4.sz; omega) fun a' g5 o5 e5 _ => ?_
      rw [hw]
      refine hnext a' g5 ⟨(eg.trans0 x4).trans e5 fun b hb hlt => by have := hold b hb; omega, ?_⟩
      rw [hstep v hv]
      exact o5
    by_cases hb : i < vs.length
    · rw [if_pos (by simp; omega)]
      obtain ⟨ar, har, hrr⟩ := rdRow (hr.ext0 (eg.trans0 x3)) hb
      rw [har]
      simp only [nilW_some]
      refine ⟨by omega, by omega, rd4A hrr ?_⟩
      refine X.put4 b3 rfl vs[i] fun g4 z4 b4 e4 => ?_
      exact fin g4 vs[i] (x3.trans e4 fun b hb hlt => by simp at hb; omega) b4 (by rw [List.getElem?_eq_getElem hb]; rfl)
    · rw [if_neg (by simp; omega)]
      exact fin g3 (defC cl[i]) x3 b3 (by rw [List.getElem?_eq_none (by omega)]; rfl)
/-- The value of an index's column in a row. -/
def ofM (col : ByteArray) (cl : List N.ColM) (vs : List X.V4) : X.V4 := if colAt cl col < 0 then X.zV else ((padM cl vs)[(colAt cl col).toNat]?).getD X.zV
theorem colAt_lt {cl : List N.ColM} {col : ByteArray} (h : ¬ colAt cl col < 0) : (colAt cl col).toNat < cl.length := by
  rcases N.idxP_find (fun d : N.ColM => decide (d.name = col)) cl 0 with ⟨i1, _⟩ | ⟨j, i1, _, hj, _⟩
  · unfold colAt at h
    omega
  · unfold colAt
    omega
theorem of_t {e : EC} (he : Blk h e.eb (encX e) T_table_entries) {s r : Sl} {cl : List N.ColM} {vs : List X.V4} (hs : Reads 7 N.encC h s cl) (hr : RowIn h r vs) (hl : cl.length ≤ 2 ^ 20) (hlr : vs.length ≤ 2 ^ 60) (hQ : ∀ h', Ext [] h h' → Q [X.agg4 (ofM e.col cl vs)] h') : S_table_entries_of (some ⟨e.eb, 0, none⟩) r s h Q := by
  refine O_table_entries_of _ _ _ ?_
  delta F_table_entries_of rI rB rS rP rM rL vI vB vS vP vM vL vC vA ad nb gb wi bl bz tn isn sib pu oc
  refine newI fun h1 s1 b1 e1 => ?_
  simp only [nilW_some, addr0]
  refine ⟨e.col, by rw [addr_mk, rd_blk (e1.get he (by simp))]; rfl, ?_⟩
  refine N.Find_s (hs.ext0 e1) (by omega) e.col fun h2 e2 => ⟨_, rfl, ?_⟩
  have b2 := e2.get b1 (by simp)
  have e02 := e1.trans0 e2
  have out : ∀ (g : Hp) (c : Array Value) (v : X.V4), Ext [] h g → Blk g h.size c T_api_Value → c.size = 4 → ofM e.col cl vs = v → stOk g ⟨h.size, 0, none⟩ 4 ∧ wth (wrs g ⟨h.size, 0, none⟩ 0 [.int .i64 v.k, .int .i64 v.n, .float .f64 v.f, .string v.s]) fun g' =>
      ∃ n3 : Int, rd g' (Addr.add (Addr.mk h.size 0 none) 0) = some (.int .i64 n3) ∧ ∃ n4 : Int, rd g' (Addr.add (Addr.mk h.size 0 none) 1) = some (.int .i64 n4) ∧ ∃ x5 : Nat, rd g' (Addr.add (Addr.mk h.size 0 none) 2) = some (.float .f64 x5) ∧ ∃ s6 : ByteArray, rd g' (Addr.add (Addr.mk h.size 0 none) 3) = some (.string s6) ∧ Q [.agg #[.int .i64 n3, .int .i64 n4, .float .f64 x5, .string s6]] g' := fun g c v eg bg hc hv =>
    X.outV bg hc v fun g' eg' => by
      have := hQ g' (eg.trans eg' fun b hb hlt => by simp at hb; omega)
      rw [hv] at this
      exact this
  by_cases hc : colAt cl e.col < 0
  · rw [if_pos (by simpa using hc)]
    exact out h2 _ X.zV e02 b2 rfl (by unfold ofM; rw [if_pos hc])
  · rw [if_neg (by simpa using hc)]
    refine Pad_t (hs.ext0 e02) (hr.ext0 e02) hl hlr fun h3 l e3 o3 => ⟨l, rfl, ?_⟩
    have hlen : (padM cl vs).length = cl.length := by simp [padM]
    have hlt := colAt_lt hc
    obtain ⟨a, ha, hrd⟩ := rdRow o3.sl.reads (i := (colAt cl e.col).toNat) (by omega)
    rw [ha]
    simp only [nilW_some]
    have hn3 := o3.1
    have hc2 : ¬ N.idxP (fun d : N.ColM => decide (d.name = e.col)) cl 0 < 0 := hc
    have hl2 : (N.idxP (fun d : N.ColM => decide (d.name = e.col)) cl 0).toNat < cl.length := hlt
    refine ⟨by omega, by omega, ?_⟩
    refine rd4A hrd ?_
    exact out h3 _ _ (e02.trans0 e3) (e3.get b2 (by simp)) rfl (by unfold ofM; rw [if_neg hc, List.getElem?_eq_getElem (by omega)]; rfl)
abbrev leafT (rel : Int) (e : EC) (n : Int) : ThingM := ⟨3, sE, rel, e.name, n⟩
theorem thing_t {e : EC} (he : Blk h e.eb (encX e) T_table_entries) (rel n : Int) (hQ : ∀ h', Ext [] h h' → Q [.agg #[.int .i64 3, .string sE, .int .i64 rel, .string e.name, .int .i64 n]] h') : S_table_thing rel (some ⟨e.eb, 0, none⟩) n h Q := by
  refine O_table_thing _ _ _ ?_
  delta F_table_thing rI rB rS rP rM rL vI vB vS vP vM vL vC vA ad nb gb wi bl bz tn isn sib pu oc
  refine newI fun h1 s1 b1 e1 => ?_
  simp only [nilW_some, addr0]
  refine ⟨e.name, by rw [rd_blk (e1.get he (by simp))]; rfl, ?_⟩
  refine st_blk b1 (by simp) fun h2 s2 b2 e2 => ?_
  refine ⟨3, by rw [rd_blk b2]; rfl, sE, by rw [addr_mk, rd_blk b2]; rfl, rel, by rw [addr_mk, rd_blk b2]; rfl, e.name, by rw [addr_mk, rd_blk b2]; rfl, n, by rw [addr_mk, rd_blk b2]; rfl, ?_⟩
  exact hQ h2 (e1.trans e2 fun b hb hlt => by simp at hb; omega)
end
end Go.Lift.T

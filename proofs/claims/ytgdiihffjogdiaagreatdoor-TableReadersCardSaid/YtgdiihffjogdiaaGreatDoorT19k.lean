/- The store asks and tells who may be committed; a version is put. -/
import Derived.Test.YtgdiihffjogdiaaGreatDoorT19h
import Derived.Test.YtgdiihffjogdiaaGreatDoorW13x
set_option linter.unusedSimpArgs false
set_option linter.unusedVariables false
namespace Go.Lift
open Go
theorem KG.rd {G : Nat → Prop} {h h' : Hp} (hk : KG G h h') {a : Addr} (ha : G a.block) : Go.Lift.rd h' a = Go.Lift.rd h a := by
  unfold Go.Lift.rd
  rw [hk.old _ ha]
theorem KG.reads {G : Nat → Prop} {h h' : Hp} {α : Type} {sz : Nat} {enc : α → List Value} {s : Sl} {xs : List α} (hk : KG G h h') (hr : Reads sz enc h s xs) (hg : xs ≠ [] → ∀ b ∈ sBlk s, G b) : Reads sz enc h' s xs := by
  refine ⟨hr.1, hr.2.1, ?_⟩
  by_cases hx : xs = []
  · have hn := hr.1
    subst hx
    rw [hn]
    simp only [List.length_nil, Nat.zero_mul, List.flatMap_nil]
    exact cellsAt_zero _ _
  have := hr.2.2
  cases ha : s.a with
  | none => rw [ha] at this; exact this
  | some a =>
    rw [ha] at this
    refine ⟨this.1, fun i hi => ?_⟩
    have h1 := this.2 i hi
    have hb : (Addr.add a i).block = a.block := by unfold Addr.add; split <;> rfl
    rw [KG.rd hk (a := a.add i) (by rw [hb]; exact hg hx _ (mem_sBlk.2 ⟨a, ha, rfl⟩))]
    exact h1
end Go.Lift
namespace Go.Lift.T
open Go Go.Proofs Go.RowKit Go.Lift.E14
set_option maxRecDepth 100000
abbrev copyM (M : SsiM) (a b : ThingM) : SsiM := { M with S := copyS M.S a b }
theorem mk_copy {k : Nat} {M : SsiM} (h : Mk k M) (hk : k < 1000) (a b : ThingM) : Mk (k + 1) (copyM M a b) := h.step hk fun N D q h1 h2 =>
  have q' : MOk (N + 202) (D + 122000000) M := q.up (by omega) (Nat.le_add_right _ _) h1 h2
  have s' := (takesO_ok q.s (fun y => decide (y = a)) b).1
  ⟨s'.up (by have := s'.bnd; omega), q'.e, q'.k, q'.d, q'.f, q'.c, q'.p, q'.nn, q'.dd⟩
theorem wroteM_keep (M : SsiM) (x : Int) (y : ThingM) : (wroteM M x y).S = M.S ∧ (wroteM M x y).L = M.L ∧ (wroteM M x y).keep = M.keep ∧ (wroteM M x y).kept = M.kept ∧ (wroteM M x y).safe = M.safe := by
  unfold wroteM
  split
  · have key : ∀ (l : List Int) (M : SsiM), (l.foldl (wstep x) M).S = M.S ∧ (l.foldl (wstep x) M).L = M.L ∧ (l.foldl (wstep x) M).keep = M.keep ∧ (l.foldl (wstep x) M).kept = M.kept ∧ (l.foldl (wstep x) M).safe = M.safe := by
      intro l
      induction l with
      | nil => intro M; exact ⟨rfl, rfl, rfl, rfl, rfl⟩
      | cons a l ih =>
        intro M
        obtain ⟨a1, a2, a3, a4, a5⟩ := ih (wstep x M a)
        obtain ⟨b1, b2, b3, b4, b5⟩ := wstep_S M x a
        rw [List.foldl_cons]
        exact ⟨a1.trans b1, a2.trans b2, a3.trans b3, a4.trans b4, a5.trans b5⟩
    exact key _ M
  · exact ⟨rfl, rfl, rfl, rfl, rfl⟩
section
variable {NP : Part} {G : Nat → Prop} {h : Hp} {C : TC} {Q : List Value → Hp → Prop} {k : Nat}
abbrev withM (C : TC) (M : SsiM) : TC := { C with M := M }
theorem Tb.onM (hT : Tb NP G h C) : ∃ P, Ss P h C.ss C.cb C.t C.e C.M ∧ ∀ {h' : Hp} {M' : SsiM}, Ss P h' C.ss C.cb C.t C.e M' → KG P h h' → Tb NP G h' (withM C M') ∧ KG G h h' := by
  obtain ⟨o, hP, _, H⟩ := Tb.on hT .ss nofun
  refine ⟨gl o h, hP.2, fun {h' M'} hS hk => ?_⟩
  obtain ⟨q1, q2⟩ := SsP.op hP hS hk
  exact H (C' := withM C M') q2 q1 fun j hj => by cases j <;> first | rfl | exact absurd rfl hj
theorem wrote_t (hT : Tb NP G h C) (ok : Mk k C.M) (hk : k < 1000) (x : Int) (y : ThingM) (hQ : ∀ h', Tb NP G h' (withM C (wroteM C.M x y)) → KG G h h' → Q [] h') : S_ssi_Ssi_Wrote (some ⟨C.ss, 0, none⟩) x y.kind y.name y.rel y.index y.n h Q := by
  obtain ⟨P, hS, H⟩ := Tb.onM hT
  exact wroteK_z hS ok hk x y fun h' s' k' => have q := H s' k'; hQ h' q.1 q.2
theorem copy_t (hT : Tb NP G h C) (ok : Mk k C.M) (hk : k < 1000) (a b : ThingM) (hQ : ∀ h', Tb NP G h' (withM C (copyM C.M a b)) → KG G h h' → Q [] h') : S_siread_Table_Copy (some ⟨C.t, 0, none⟩) a.kind a.name a.rel a.index a.n b.kind b.name b.rel b.index b.n h Q := by
  obtain ⟨P, hS, H⟩ := Tb.onM hT
  obtain ⟨P', hv, hp, _, H'⟩ := hS.onS
  have hle := mk_le hk
  refine Copy_s hv ok.s (by omega) a b fun h' s' k' => ?_
  have q := H (H' s' k') (k'.anti hp)
  exact hQ h' q.1 q.2
/-- One index's entries change. -/
def lfC (eb : Nat) (lf : X.LeafM) (r : RC) : RC := { r with es := r.es.map fun e => if e.eb = eb then { e with lf := lf } else e }
theorem nodup_eb {es : List EC} (hn : (es.map EC.eb).Nodup) {i j : Nat} {a b : EC} (hi : es[i]? = some a) (hj : es[j]? = some b) (he : a.eb = b.eb) : i = j := by
  obtain ⟨h1, e1⟩ := List.getElem?_eq_some_iff.1 hi
  obtain ⟨h2, e2⟩ := List.getElem?_eq_some_iff.1 hj
  refine (List.getElem_inj (h₀ := by simpa using h1) (h₁ := by simpa using h2) hn).1 ?_
  rw [List.getElem_map, List.getElem_map, e1, e2, he]
theorem lfC_rl {r : RC} {eb : Nat} {lf : X.LeafM} : RlP (lfC eb lf r) = RlP r := by
  have henc : ∀ e : EC, encX (if e.eb = eb then { e with lf := lf } else e) = encX e := fun e => by split <;> rfl
  have heb : ∀ e : EC, (if e.eb = eb then { e with lf := lf } else e).eb = e.eb := fun e => by split <;> rfl
  have hm : (lfC eb lf r).es.map EC.eb = r.es.map EC.eb := by
    unfold lfC
    simp only [List.map_map]
    exact List.map_congr_left fun e _ => heb e
  have hown : ∀ (h : Hp) (l : Sl), Own T_ptable_entries 1 encPt 0 h l (lfC eb lf r).es ↔ Own T_ptable_entries 1 encPt 0 h l r.es := fun h l => by
    have hfl : (lfC eb lf r).es.flatMap encPt = r.es.flatMap encPt := by
      unfold lfC
      simp only [List.flatMap_map]
      congr 1
      funext e
      show [pt _] = [pt _]
      rw [heb]
    have hlen : (lfC eb lf r).es.length = r.es.length := by simp [lfC]
    have hnil : (lfC eb lf r).es = [] ↔ r.es = [] := by simp [lfC]
    unfold Own
    rw [hfl, hlen, hnil]
  funext o h
  unfold RlP
  rw [hm]
  have a1 : ∀ (P : Nat → Prop), (∀ e ∈ (lfC eb lf r).es, P e.eb) ↔ ∀ e ∈ r.es, P e.eb := fun P => by
    unfold lfC
    simp only [List.mem_map]
    constructor
    · intro H e he
      have := H _ ⟨e, he, rfl⟩
      rwa [heb] at this
    · rintro H _ ⟨e, he, rfl⟩
      rw [heb]
      exact H e he
  have a2 : (∀ e ∈ (lfC eb lf r).es, o e.eb ∧ e.eb ≠ r.rb ∧ Blk h e.eb (encX e) T_table_entries) ↔ ∀ e ∈ r.es, o e.eb ∧ e.eb ≠ r.rb ∧ Blk h e.eb (encX e) T_table_entries := by
    unfold lfC
    simp only [List.mem_map]
    constructor
    · intro H e he
      have := H _ ⟨e, he, rfl⟩
      rwa [heb, henc] at this
    · rintro H _ ⟨e, he, rfl⟩
      rw [heb, henc]
      exact H e he
  have e1 : (lfC eb lf r).rb = r.rb := rfl
  have e2 : (lfC eb lf r).hr = r.hr := rfl
  rw [e1, e2, a2]
  apply propext
  constructor
  · rintro ⟨b1, b2, l, b3, b4, b5, b6, b7⟩
    exact ⟨b1, b2, l, b3, (hown h l).1 b4, fun b hb => ⟨(b5 b hb).1, (b5 b hb).2.1, (a1 fun x => b ≠ x).1 (b5 b hb).2.2⟩, b6, b7⟩
  · rintro ⟨b1, b2, l, b3, b4, b5, b6, b7⟩
    exact ⟨b1, b2, l, b3, (hown h l).2 b4, fun b hb => ⟨(b5 b hb).1, (b5 b hb).2.1, (a1 fun x => b ≠ x).2 (b5 b hb).2.2⟩, b6, b7⟩
theorem add1_t (hT : Tb NP G h C) {n : Nat} {r : RC} {j : Nat} {e : EC} (hr : C.R[n]? = some r) (he : r.es[j]? = some e) {m : Nat} (ok : X.OkM e.lf m) (hm : m < 2 ^ 15) (v : X.V4) (hv : X.VOk v) (t : Int) (hg : X.GM h)
    (hQ : ∀ h', Tb NP G h' (modC C n (lfC e.eb (X.addM e.lf v t).1)) → KG G h h' → Q (X.didV (X.addM e.lf v t).2) h') : S_index_Index_Add (some ⟨e.ix, 0, none⟩) v.k v.n v.f v.s t h Q := by
  obtain ⟨o2, q2⟩ := Tb.rl hT hr
  obtain ⟨_, _, _, _, _, _, _, hnd⟩ := q2
  obtain ⟨o, q, p, H⟩ := Tb.on hT (.ix n j) nofun
  simp only [tX, entAt, hr, Option.bind_some, he, oP] at q
  refine X.Add_i q.2 ok hm (Nat.le_refl _) v hv t hg fun h' S hx hE hS => ?_
  obtain ⟨q1, q2⟩ := IxP.op q hx hE fun b hb => (hS b hb).2
  have key : (lfC e.eb (X.addM e.lf v t).1 r).es[j]? = some { e with lf := (X.addM e.lf v t).1 } := by
    unfold lfC
    simp only [List.getElem?_map, he, Option.map_some, if_true]
  obtain ⟨T1, k1⟩ := H (C' := modC C n (lfC e.eb (X.addM e.lf v t).1)) q2 (by
    simp only [tX, entAt, modC_at, if_true, hr, Option.map_some, Option.bind_some, key, oP]
    exact q1) fun i hi => tX_mod (f := lfC e.eb (X.addM e.lf v t).1) (fun _ => rfl) (fun _ _ _ => lfC_rl) (fun _ _ _ => rfl) fun r' k hr' ei => by
      rw [hr] at hr'
      obtain rfl := Option.some.inj hr'
      have hkj : k ≠ j := fun q => hi (by rw [ei, q])
      unfold lfC
      simp only [List.getElem?_map]
      cases hk : r.es[k]? with
      | none => rfl
      | some e' =>
        have : ¬ e'.eb = e.eb := fun q => hkj (nodup_eb hnd hk he q)
        simp only [Option.map_some, if_neg this]
  exact hQ h' T1 k1
end
end Go.Lift.T
namespace Go.Lift.T
open Go Go.Proofs Go.RowKit Go.Lift.E14
set_option maxRecDepth 100000
set_option maxHeartbeats 1000000
def putStep (xid n tid : Int) (cl : List N.ColM) (vs : List X.V4) (C : TC) (y : EC) : TC :=
  let d := X.addM y.lf (ofM y.col cl vs) tid
  let C1 := modC C (n - 1).toNat (lfC y.eb d.1)
  if d.2.err ≠ 0 then C1
  else withM C1 (wroteM (if d.2.mf = 0 ∧ d.2.mt = 0 then C1.M else copyM C1.M (leafT n y d.2.mf) (leafT n y d.2.mt)) xid (leafT n y d.2.leaf))
abbrev hpC (xid : Int) (vs : List X.V4) (r : RC) : RC := { r with hp := insR r.hp xid vs }
abbrev relTh (n : Int) : ThingM := ⟨2, sE, n, sE, 0⟩
def putC (C : TC) (xid n : Int) (vs : List X.V4) (cl : List N.ColM) : TC × Int × Int :=
  match relAt C.R n with
  | none => (C, 0, 1)
  | some r =>
    if insE r.hp xid ≠ 0 then (C, 0, insE r.hp xid)
    else
      let C1 := (standR C n).foldl (putStep xid n r.hp.next cl vs) (modC C (n - 1).toNat (hpC xid vs))
      (withM C1 (wroteM C1.M xid (relTh n)), r.hp.next, 0)
theorem relAt_mod {C : TC} {n : Int} {f : RC → RC} {r : RC} (hr : relAt C.R n = some r) : relAt (modC C (n - 1).toNat f).R n = some (f r) := by
  have := relAt_mem hr
  unfold relAt
  rw [if_pos this.2.2, modC_at, if_pos rfl, this.1]
  rfl
theorem standR_hp {C : TC} {n : Int} {xid : Int} {vs : List X.V4} : standR (modC C (n - 1).toNat (hpC xid vs)) n = standR C n := by
  unfold standR
  cases hr : relAt C.R n with
  | some r => rw [relAt_mod hr]; rfl
  | none =>
    have : relAt (modC C (n - 1).toNat (hpC xid vs)).R n = none := by
      unfold relAt at hr ⊢
      by_cases h1 : 1 ≤ n
      · rw [if_pos h1] at hr ⊢
        rw [modC_at, if_pos rfl, hr]
        rfl
      · rw [if_neg h1]
    rw [this]
theorem mem_mod {C : TC} {n : Nat} {f : RC → RC} {r : RC} (h : r ∈ (modC C n f).R) : ∃ r' ∈ C.R, r = r' ∨ r = f r' := by
  obtain ⟨m, hm⟩ := List.mem_iff_getElem?.1 h
  rw [modC_at] at hm
  cases hr : C.R[m]? with
  | none => rw [hr] at hm; split at hm <;> cases hm
  | some r' =>
    rw [hr] at hm
    refine ⟨r', List.mem_of_getElem? hr, ?_⟩
    split at hm
    · exact Or.inr (Option.some.inj hm).symm
    · exact Or.inl (Option.some.inj hm).symm
theorem FewE.hp {C : TC} (hf : FewE C) (n : Nat) (xid : Int) (vs : List X.V4) : FewE (modC C n (hpC xid vs)) := fun r hr => by
  obtain ⟨r', h1, h2⟩ := mem_mod hr
  rcases h2 with rfl | rfl
  · exact hf _ h1
  · exact hf r' h1
theorem lfC_at {r : RC} {eb : Nat} {lf : X.LeafM} {j : Nat} {y : EC} (h : r.es[j]? = some y) (hn : y.eb ≠ eb) : (lfC eb lf r).es[j]? = some y := by
  unfold lfC
  simp only [List.getElem?_map, h, Option.map_some, if_neg hn]
/-- The values of a row and of columns are what they should be. -/
structure RowOk (cl : List N.ColM) (vs : List X.V4) : Prop where
  v : ∀ v ∈ vs, X.VOk v
  c : ∀ c ∈ cl, X.VOk (defC c)
theorem zV_ok : X.VOk X.zV := ⟨by decide, by decide, by decide⟩
theorem ofM_ok {cl : List N.ColM} {vs : List X.V4} (h : RowOk cl vs) (col : ByteArray) : X.VOk (ofM col cl vs) := by
  unfold ofM
  split
  · exact zV_ok
  · cases hp : (padM cl vs)[(colAt cl col).toNat]? with
    | none => exact zV_ok
    | some v =>
      show X.VOk v
      have := List.mem_of_getElem? hp
      unfold padM at this
      obtain ⟨i, hi, rfl⟩ := List.mem_mapIdx.1 this
      cases hv : vs[i]? with
      | none => exact h.c _ (List.getElem_mem _)
      | some v => exact h.v v (List.mem_of_getElem? hv)
section
variable {NP : Part} {G : Nat → Prop} {h : Hp} {C : TC} {Q : List Value → Hp → Prop} {k m : Nat}
def OkE (m : Nat) (es : List EC) : Prop := ∀ e ∈ es, X.OkM e.lf m
theorem gm_ext {g g' : Hp} {G : Nat → Prop} (hg : X.GM g) (hk : KG G g g') (h0 : G 1) : X.GM g' := by
  obtain ⟨m, hm⟩ := hg
  exact ⟨m, by rw [KG.rd hk h0]; exact hm⟩
theorem Put_t (hT : Tb NP G h C) (hf : FewE C) (ok : Mk k C.M) (hk : k + 9 + 2 * 20 ≤ 1000) (hok : ∀ r ∈ C.R, OkE m r.es) (hm : m < 2 ^ 15) (xid n : Int) {s r : Sl} {cl : List N.ColM} {vs : List X.V4} (hs : Reads 7 N.encC h s cl) (hr : RowIn h r vs)
    (hgs : cl ≠ [] → ∀ b ∈ sBlk s, G b) (hgr : vs ≠ [] → ∀ b ∈ sBlk r, G b) (hl : cl.length ≤ 2 ^ 20) (hlr : vs.length ≤ 2 ^ 20) (hrow : RowOk cl vs) (hg : X.GM h) (hg0 : G 1)
    (hQ : ∀ h', Tb NP G h' (putC C xid n vs cl).1 → KG G h h' → Q [.int .i64 (putC C xid n vs cl).2.1, .int .i64 (putC C xid n vs cl).2.2] h') : S_table_Store_Put (some ⟨C.s, 0, none⟩) xid n r s h Q := by
  refine O_table_Store_Put _ _ _ _ _ ?_
  delta F_table_Store_Put rI rB rS rP rM rL vI vB vS vP vM vL vC vA ad nb gb wi bl bz tn isn sib pu oc
  refine rel_t hT n ?_
  unfold putC at hQ
  cases hrel : relAt C.R n with
  | none =>
    simp only [hrel] at hQ
    exact ⟨none, rfl, by rw [if_pos (by rfl)]; exact hQ h hT (KG.refl _ _)⟩
  | some rc =>
    simp only [hrel] at hQ
    obtain ⟨hat, hmem, h1n⟩ := relAt_mem hrel
    refine ⟨some ⟨rc.rb, 0, none⟩, rfl, ?_⟩
    rw [if_neg (by simp)]
    simp only [nilW_some]
    obtain ⟨_, _, _, l0, hb0, _, _, _, hnd⟩ := Tb.rl hT hat
    refine ⟨some ⟨rc.hr, 0, none⟩, by rw [addr_mk, rd_blk hb0]; rfl, ?_⟩
    obtain ⟨o, q, _, H⟩ := Tb.on hT (.hp (n - 1).toNat) nofun
    simp only [tX, hat, oP] at q
    refine HInsert_t q hr (by have := hr.1; show r.n ≤ 2 ^ 20; omega) fun h1 q1 k1 => ⟨_, _, rfl, ?_⟩
    by_cases he : insE rc.hp xid = 0
    rotate_left
    · rw [if_pos (by simpa using he)]
      rw [if_pos he] at hQ
      have hins : insR rc.hp xid vs = rc.hp := by
        unfold insR
        refine if_neg fun g => he ?_
        unfold insE
        rw [if_pos g.1, if_neg (by simp [g.2])]
      rw [hins] at q1
      obtain ⟨T1, kk⟩ := H (C' := C) k1 (by simp only [tX, hat, oP]; exact q1) fun _ _ => rfl
      exact hQ h1 T1 kk
    rw [if_neg (by simp [he])]
    rw [if_neg (by simp [he])] at hQ
    have hx : 1 ≤ xid ∧ rc.hp.full = false := by
      unfold insE at he
      by_cases h1 : 1 ≤ xid
      · rw [if_pos h1] at he
        cases hfu : rc.hp.full with
        | false => exact ⟨h1, rfl⟩
        | true => rw [hfu] at he; simp at he
      · rw [if_neg h1] at he
        simp at he
    rw [if_pos hx]
    obtain ⟨T1, kk⟩ := H (C' := modC C (n - 1).toNat (hpC xid vs)) k1 (by simp only [tX, modC_at, if_true, hat, Option.map_some, oP]; exact q1) fun j hj => tX_mod (f := hpC xid vs) (fun _ => rfl) (fun _ _ _ => rfl) (fun _ _ e => absurd e hj) fun _ _ _ _ => rfl
    clear H
    refine standing_t T1 (hf.hp _ xid vs) n fun h2 l e2 o2 => ⟨l, rfl, ?_⟩
    rw [standR_hp] at o2
    have T2 := TbX.more T1 e2
    have kk2 := kk.trans (T1.kg e2)
    have hlen := standR_len hf n
    have hln := o2.1
    have hlst : (standR C n) = standM C.M.L rc.es := by unfold standR; rw [hrel]
    have hpm : (standR C n).Perm (rc.es.filter (standsB C.M.L)) := by rw [hlst]; exact isort_perm _ _
    have hndl : ((standR C n).map EC.eb).Nodup := ((hpm.map EC.eb).nodup_iff).2 (hnd.sublist ((List.filter_sublist).map EC.eb))
    have hin0 : ∀ y ∈ standR C n, ∃ j : Nat, rc.es[j]? = some y := fun y hy => List.mem_iff_getElem?.1 (List.mem_filter.1 (hpm.mem_iff.1 hy)).1
    intro X1 hX1
    have hsl : ∀ b ∈ sBlk l, GX G h1 h2 b := fun b hb => Or.inr (own_ltG o2 b hb)
    -- what holds behind i indexes
    generalize hCi : (fun i : Nat => ((standR C n).take i).foldl (putStep xid n rc.hp.next cl vs) (modC C (n - 1).toNat (hpC xid vs))) = Ci
    have Ci0 : Ci 0 = modC C (n - 1).toNat (hpC xid vs) := by rw [← hCi]; rfl
    have CiS : ∀ i (hi : i < (standR C n).length), Ci (i + 1) = putStep xid n rc.hp.next cl vs (Ci i) (standR C n)[i] := fun i hi => by
      rw [← hCi]
      simp only
      rw [List.take_succ_eq_append_getElem hi, List.foldl_append]
      rfl
    have CiE : Ci (standR C n).length = (standR C n).foldl (putStep xid n rc.hp.next cl vs) (modC C (n - 1).toNat (hpC xid vs)) := by rw [← hCi]; simp only [List.take_length]
    clear hCi
    have loop := loopI (X := X1) (standR C n).length (fun i g => ∃ G1 : Nat → Prop, (∀ b, G b → G1 b) ∧ (∀ b ∈ sBlk l, G1 b) ∧ Tb NP G1 g (Ci i) ∧ KG G h g ∧ (∀ b ∈ sBlk l, g[b]? = h2[b]?) ∧ Mk (k + 2 * i) (Ci i).M ∧ X.GM g ∧
        ((Ci i).s = C.s ∧ (Ci i).ss = C.ss ∧ (Ci i).t = C.t) ∧ ∃ r', (Ci i).R[(n - 1).toNat]? = some r' ∧ ∀ y ∈ (standR C n).drop i, ∃ j : Nat, r'.es[j]? = some y) ?_ ?_ h2 ?_
    · exact loop
    · -- all indexes are done
      rintro g ⟨G1, hG1, hl1, Tg, kg, _, mk, gm, ⟨s1, s2, s3⟩, _⟩
      refine hX1 _ _ ?_
      rw [if_neg (by simp; omega)]
      refine ⟨some ⟨C.ss, 0, none⟩, ?_, ?_⟩
      · have := rdSt Tg 3
        rw [s1, s2] at this
        simpa using this
      · rw [← s2]
        refine wrote_t (y := relTh n) Tg mk (by omega) xid fun g' Tg' kg' => ⟨rfl, ?_⟩
        rw [← CiE] at hQ
        exact hQ g' (Tg'.less hG1) (kg.trans (kg'.anti hG1))
    · -- one index
      rintro i g hi ⟨G1, hG1, hl1, Tg, kg, hlb, mk, gm, ⟨s1, s2, s3⟩, r', hr', hdr⟩ hnext
      refine hX1 _ _ ?_
      rw [if_pos (by simp; omega)]
      intro J hJ
      have og : Own T_ptable_entries 1 encPt h1.size g l (standR C n) := own_kg o2 hlb
      obtain ⟨al, hal, hrd⟩ := rdE og hi
      rw [hal]
      simp only [nilW_some, Int.toNat_natCast]
      have hw : IntKind.wrap .i64 ((i : Int) + 1) = ((i + 1 : Nat) : Int) := by rw [wrap64 (by omega) (by omega)]; simp
      rw [hw] at hJ
      have hCS := CiS i hi
      have hdrop : (standR C n).drop i = (standR C n)[i] :: (standR C n).drop (i + 1) := List.drop_eq_getElem_cons hi
      have hfresh : ∀ y' ∈ (standR C n).drop (i + 1), y'.eb ≠ (standR C n)[i].eb := fun y' hy' eq => by
        have h1 := hndl.sublist ((List.drop_sublist i (standR C n)).map EC.eb)
        rw [hdrop, List.map_cons, List.nodup_cons] at h1
        exact h1.1 (eq ▸ List.mem_map_of_mem hy')
      have hokm : X.OkM (standR C n)[i].lf m := by
        obtain ⟨j, hj⟩ := hin0 _ (List.getElem_mem hi)
        exact hok rc hmem _ (List.mem_of_getElem? hj)
      obtain ⟨j, hj⟩ := hdr (standR C n)[i] (by rw [hdrop]; exact List.mem_cons_self)
      have hdr' : ∀ y ∈ (standR C n).drop (i + 1), ∃ j : Nat, r'.es[j]? = some y := fun y hy => hdr y (by rw [hdrop]; exact List.mem_cons_of_mem _ hy)
      generalize hy : (standR C n)[i] = y at *
      refine ⟨by omega, by omega, some ⟨y.eb, 0, none⟩, hrd, ?_⟩
      intro J20 hJ20
      generalize hv : ofM y.col cl vs = v at *
      have hvok : X.VOk v := hv ▸ ofM_ok hrow y.col
      generalize hd : X.addM y.lf v rc.hp.next = d at *
      -- behind Add
      have after : ∀ (g4 : Hp) (mb : Nat) (G4 : Nat → Prop), Tb NP G4 g4 (modC (Ci i) (n - 1).toNat (lfC y.eb d.1)) → (∀ b, G b → G4 b) → (∀ b ∈ sBlk l, G4 b) → G4 mb → Blk g4 mb #[.int .i64 d.2.mf, .int .i64 d.2.mt] T_leaf_Move → KG G h g4 →
          (∀ b ∈ sBlk l, g4[b]? = h2[b]?) → X.GM g4 → J20 [.int .i64 d.2.leaf, .pointer (some ⟨mb, 0, none⟩), .int .i64 d.2.err] g4 := by
        intro g4 mb G4 T4 hG4 hl4 hmb bmb kg4 hlb4 gm4
        have hput : Ci (i + 1) = if d.2.err ≠ 0 then modC (Ci i) (n - 1).toNat (lfC y.eb d.1)
            else withM (modC (Ci i) (n - 1).toNat (lfC y.eb d.1)) (wroteM (if d.2.mf = 0 ∧ d.2.mt = 0 then (Ci i).M else copyM (Ci i).M (leafT n y d.2.mf) (leafT n y d.2.mt)) xid (leafT n y d.2.leaf)) := by
          rw [hCS]
          unfold putStep
          simp only [hv, hd]
          rfl
        have hR : ∀ M' : SsiM, ∃ r2, (withM (modC (Ci i) (n - 1).toNat (lfC y.eb d.1)) M').R[(n - 1).toNat]? = some r2 ∧ ∀ y' ∈ (standR C n).drop (i + 1), ∃ j : Nat, r2.es[j]? = some y' := fun M' => by
          refine ⟨lfC y.eb d.1 r', ?_, fun y' hy' => ?_⟩
          · show (modC (Ci i) (n - 1).toNat (lfC y.eb d.1)).R[(n - 1).toNat]? = _
            rw [modC_at, if_pos rfl, hr']
            rfl
          · obtain ⟨j', hj'⟩ := hdr' y' hy'
            exact ⟨j', lfC_at hj' (hfresh y' hy')⟩
        have hy1 : ∀ {g5 : Hp} {G5 : Nat → Prop} {M' : SsiM}, Tb NP G5 g5 (withM (modC (Ci i) (n - 1).toNat (lfC y.eb d.1)) M') → Blk g5 y.eb (encX y) T_table_entries := fun {g5 G5 M'} T5 => by
          have h1 : (withM (modC (Ci i) (n - 1).toNat (lfC y.eb d.1)) M').R[(n - 1).toNat]? = some (lfC y.eb d.1 r') := by
            show (modC (Ci i) (n - 1).toNat (lfC y.eb d.1)).R[(n - 1).toNat]? = _
            rw [modC_at, if_pos rfl, hr']
            rfl
          obtain ⟨_, _, _, _, _, _, _, hes, _⟩ := Tb.rl T5 h1
          have h2 : (lfC y.eb d.1 r').es[j]? = some { y with lf := d.1 } := by
            unfold lfC
            simp only [List.getElem?_map, hj, Option.map_some, if_true]
          exact (hes _ (List.mem_of_getElem? h2)).2.2
        refine hJ20 _ _ _ _ ?_
        by_cases herr : d.2.err = 0
        rotate_left
        · rw [if_pos (by simpa using herr)]
          refine hJ _ ?_
          rw [if_pos herr] at hput
          refine hnext g4 ⟨G4, hG4, hl4, by rw [hput]; exact T4, kg4, hlb4, ?_, gm4, by rw [hput]; exact ⟨s1, s2, s3⟩, by rw [hput]; exact hR (Ci i).M⟩
          rw [hput]
          exact (mk : MOk _ _ _).up (by omega) (by omega) (by omega) (Nat.le_trans (Nat.mul_le_mul_left _ (show k + 2 * (i + 1) ≤ 1000 by omega)) (by decide))
        · rw [if_neg (by simp [herr])]
          rw [if_neg (by simp [herr])] at hput
          refine ⟨d.2.mf, by rw [addr_mk, rd_blk bmb]; rfl, d.2.mt, by rw [addr_mk, rd_blk bmb]; rfl, ?_⟩
          intro J27 hJ27
          -- the entry's leaf is told
          have last : ∀ (g5 : Hp) (G5 : Nat → Prop) (M' : SsiM), Tb NP G5 g5 (withM (modC (Ci i) (n - 1).toNat (lfC y.eb d.1)) M') → (∀ b, G b → G5 b) → (∀ b ∈ sBlk l, G5 b) → KG G h g5 → (∀ b ∈ sBlk l, g5[b]? = h2[b]?) → X.GM g5 → Mk (k + 2 * i + 1) M' →
              M' = (if d.2.mf = 0 ∧ d.2.mt = 0 then (Ci i).M else copyM (Ci i).M (leafT n y d.2.mf) (leafT n y d.2.mt)) → J27 [] g5 := by
            intro g5 G5 M' T5 hG5 hl5 kg5 hlb5 gm5 mk5 hM'
            refine hJ27 _ ?_
            have r3 : rd g5 (Addr.add ⟨C.s, 0, none⟩ 3) = some (pt C.ss) := by
              have := rdSt T5 3
              rw [show (withM (modC (Ci i) (n - 1).toNat (lfC y.eb d.1)) M').s = C.s from s1, show (withM (modC (Ci i) (n - 1).toNat (lfC y.eb d.1)) M').ss = C.ss from s2] at this
              simpa using this
            refine ⟨some ⟨C.ss, 0, none⟩, r3, ?_⟩
            refine thing_t (hy1 T5) n d.2.leaf fun g6 e6 => ⟨_, _, _, _, _, rfl, ?_⟩
            have T6 := TbX.e0 T5 e6
            refine ⟨rd_ext0 e6 r3, ?_⟩
            rw [← s2]
            refine wrote_t (C := withM (modC (Ci i) (n - 1).toNat (lfC y.eb d.1)) M') (y := leafT n y d.2.leaf) T6 mk5 (by omega) xid fun g7 T7 k7 => ⟨rfl, ?_⟩
            refine hJ _ ?_
            rw [← hM'] at hput
            have k57 : KG G5 g5 g7 := (TbX.kg T5 e6).trans k7
            refine hnext g7 ⟨G5, hG5, hl5, by rw [hput]; exact T7, kg5.trans (k57.anti hG5), fun b hb => by rw [k57.old b (hl5 b hb), hlb5 b hb], ?_, gm_ext gm5 k57 (hG5 _ hg0), by rw [hput]; exact ⟨s1, s2, s3⟩, by rw [hput]; exact hR _⟩
            rw [hput]
            have := Mk.wrote mk5 (by omega) xid (leafT n y d.2.leaf)
            exact this
          by_cases hmv : d.2.mf = 0 ∧ d.2.mt = 0
          · rw [if_neg (by simp [hmv])]
            exact last g4 G4 (Ci i).M T4 hG4 hl4 kg4 hlb4 gm4 ((mk : MOk _ _ _).up (by omega) (by omega) (by omega) (Nat.le_trans (Nat.mul_le_mul_left _ (show k + 2 * i + 1 ≤ 1000 by omega)) (by decide))) (by rw [if_pos hmv])
          · rw [if_pos (by simp only [Bool.and_true, Bool.not_eq_true', Bool.and_eq_false_imp, beq_iff_eq, beq_eq_false_iff_ne]; exact fun h1 h2 => hmv ⟨h1, h2⟩)]
            have r3 : rd g4 (Addr.add ⟨C.s, 0, none⟩ 3) = some (pt C.ss) := by
              have := rdSt T4 3
              rw [show (modC (Ci i) (n - 1).toNat (lfC y.eb d.1)).s = C.s from s1, show (modC (Ci i) (n - 1).toNat (lfC y.eb d.1)).ss = C.ss from s2] at this
              simpa using this
            have rmb : ∀ {g5 : Hp}, Ext [] g4 g5 → ∀ q : Nat, rd g5 (Addr.add ⟨mb, 0, none⟩ q) = (#[Value.int .i64 d.2.mf, .int .i64 d.2.mt] : Array Value)[q]? := fun e5 q => by rw [addr_mk, rd_blk (e5.get bmb (by simp)), Nat.zero_add]
            refine ⟨some ⟨C.ss, 0, none⟩, r3, d.2.mf, rmb (Ext.refl _ _) 0, d.2.mt, rmb (Ext.refl _ _) 1, ?_⟩
            obtain ⟨_, S4⟩ := Tb.ssi T4
            rw [show (modC (Ci i) (n - 1).toNat (lfC y.eb d.1)).ss = C.ss from s2] at S4
            refine Table_z S4 ⟨_, rfl, rmb (Ext.refl _ _) 1, rmb (Ext.refl _ _) 0, ?_⟩
            refine thing_t (hy1 T4) n d.2.mf fun g5 e5 => ⟨_, _, _, _, _, rfl, rmb e5 1, ?_⟩
            have T5 := TbX.e0 T4 e5
            refine thing_t (hy1 T5) n d.2.mt fun g6 e6 => ⟨_, _, _, _, _, rfl, ?_⟩
            have T6 := TbX.e0 T5 e6
            refine copy_t (k := k + 2 * i) T6 mk (by omega) (leafT n y d.2.mf) (leafT n y d.2.mt) fun g7 T7 k7 => ⟨rfl, ?_⟩
            have k47 : KG G4 g4 g7 := (TbX.kg T4 (e5.trans0 e6)).trans k7
            exact last g7 G4 _ T7 hG4 hl4 (kg4.trans (k47.anti hG4)) (fun b hb => by rw [k47.old b (hl4 b hb), hlb4 b hb]) (gm_ext gm4 k47 (hG4 _ hg0)) (mk_copy mk (by omega) _ _) (by rw [if_neg hmv]; rfl)
      have hyg : Blk g y.eb (encX y) T_table_entries := by
        obtain ⟨_, _, _, _, _, _, _, hes, _⟩ := Tb.rl Tg hr'
        exact (hes _ (List.mem_of_getElem? hj)).2.2
      have rix : ∀ {g5 : Hp}, Ext [] g g5 → rd g5 (Addr.add ⟨y.eb, 0, none⟩ 6) = some (pt y.ix) := fun e5 => by rw [addr_mk, rd_blk (e5.get hyg (by simp))]; rfl
      have rs : ∀ {g5 : Hp}, Ext [] g g5 → Reads 7 N.encC g5 s cl := fun e5 => (kg.reads hs hgs).ext0 e5
      have rr : ∀ {g5 : Hp}, Ext [] g g5 → RowIn g5 r vs := fun e5 => (kg.reads hr hgr).ext0 e5
      have hlG : ∀ {g5 : Hp}, Ext [] g g5 → ∀ b ∈ sBlk l, g5[b]? = h2[b]? := fun e5 b hb => by rw [e5.old b (Tg.lt (hl1 b hb)) (by simp), hlb b hb]
      -- the move is laid first
      have early : ∀ (g2 : Hp) (mb : Nat) (G2 : Nat → Prop), g.size ≤ mb → Ext [] g g2 → Tb NP G2 g2 (Ci i) → (∀ b, G1 b → G2 b) → G2 mb → Blk g2 mb #[.int .i64 0, .int .i64 0] T_leaf_Move → S_index_Index_Add (some ⟨y.ix, 0, none⟩) v.k v.n v.f v.s rc.hp.next g2 fun vs80 h81 =>
          ∃ n82 n83 n84 n85 : Int, vs80 = [.int .i64 n82, .agg #[.int .i64 n83, .int .i64 n84], .int .i64 n85] ∧ stOk h81 ⟨mb, 0, none⟩ 2 ∧ wth (wrs h81 ⟨mb, 0, none⟩ 0 [.int .i64 n83, .int .i64 n84]) fun h86 => J20 [.int .i64 n82, .pointer (some ⟨mb, 0, none⟩), .int .i64 n85] h86 := by
        intro g2 mb G2 hfr eg2 T2 hG2 hmb bmb
        have kgg : KG G1 g g2 := TbX.kg Tg eg2
        refine add1_t T2 hr' hj hokm hm v hvok rc.hp.next (gm_ext gm kgg (hG1 _ hg0)) fun g3 T3 k3 => ?_
        rw [hd] at T3 ⊢
        refine ⟨d.2.leaf, d.2.mf, d.2.mt, d.2.err, rfl, ?_⟩
        have b3 : Blk g3 mb #[.int .i64 0, .int .i64 0] T_leaf_Move := k3.get bmb hmb
        refine st_blk b3 (by simp) fun g4 z4 b4 e4 => ?_
        have T4 := TbX.eS T3 e4 fun b hb _ => by simp at hb; subst hb; exact hmb
        have fr : ∀ b, G1 b → b ≠ mb := fun b hb e => by
          have := Tg.lt hb
          omega
        have kG1 : KG G1 g g4 := kgg.trans ((k3.anti hG2).trans ⟨by rw [z4]; exact Nat.le_refl _, fun b hb => e4.old b (T3.lt (hG2 b hb)) (by simpa using fr b hb)⟩)
        exact after g4 mb G2 T4 (fun b hb => hG2 b (hG1 b hb)) (fun b hb => hG2 b (hl1 b hb)) hmb (by simpa [putAt] using b4) (kg.trans (kG1.anti hG1)) (fun b hb => by rw [kG1.old b (hl1 b hb), hlb b hb]) (gm_ext gm kG1 (hG1 _ hg0))
      simp only [nilW_some]
      refine ⟨some ⟨y.ix, 0, none⟩, rix (Ext.refl _ _), ?_, ?_⟩
      · refine of_t hyg (rs (Ext.refl _ _)) (rr (Ext.refl _ _)) hl (by omega) fun g1 e1 => ⟨v.k, v.n, v.f, v.s, by rw [← hv]; rfl, rix e1, ?_, ?_⟩
        · refine add1_t (TbX.e0 Tg e1) hr' hj hokm hm v hvok rc.hp.next (gm_ext gm (TbX.kg Tg e1) (hG1 _ hg0)) fun g2 T2 k2 => ?_
          rw [hd] at T2 ⊢
          refine ⟨d.2.leaf, d.2.mf, d.2.mt, d.2.err, rfl, ?_⟩
          refine varI rfl rfl fun g3 z3 b3 e3 => ?_
          have k03 : KG G1 g g3 := ((TbX.kg Tg e1).trans k2).trans (TbX.kg T2 e3)
          exact after g3 g2.size (GX G1 g2 g3) (TbX.more T2 e3) (fun b hb => Or.inl (hG1 b hb)) (fun b hb => Or.inl (hl1 b hb)) (Or.inr ⟨Nat.le_refl _, by omega⟩) b3 (kg.trans (k03.anti hG1)) (fun b hb => by rw [k03.old b (hl1 b hb), hlb b hb]) (gm_ext gm k03 (hG1 _ hg0))
        · refine newI fun g2 s2 b2 e2 => ⟨rix (e1.trans0 e2), ?_⟩
          exact early g2 g1.size (GX G1 g g2) e1.sz (e1.trans0 e2) (TbX.more Tg (e1.trans0 e2)) (fun b hb => Or.inl hb) (Or.inr ⟨e1.sz, by omega⟩) b2
      · refine newI fun g1 s1 b1 e1 => ⟨rix e1, ?_⟩
        refine of_t (e1.get hyg (by simp)) (rs e1) (rr e1) hl (by omega) fun g2 e2 => ⟨v.k, v.n, v.f, v.s, by rw [← hv]; rfl, rix (e1.trans0 e2), ?_⟩
        exact early g2 g.size (GX G1 g g2) (Nat.le_refl _) (e1.trans0 e2) (TbX.more Tg (e1.trans0 e2)) (fun b hb => Or.inl hb) (Or.inr ⟨Nat.le_refl _, by have := e2.sz; omega⟩) (e2.get b1 (by simp))
    · refine ⟨GX G h1 h2, fun b hb => Or.inl hb, hsl, by rw [Ci0]; exact T2, kk2, fun _ _ => rfl, by rw [Ci0]; exact ok, gm_ext hg kk2 hg0, by rw [Ci0]; exact ⟨rfl, rfl, rfl⟩, hpC xid vs rc, ?_, fun y hy => ?_⟩
      · rw [Ci0, modC_at, if_pos rfl, hat]
        rfl
      · rw [List.drop_zero] at hy
        exact hin0 y hy
end
end Go.Lift.T
namespace Go.Lift.T
open Go Go.Proofs Go.RowKit Go.Lift.E14
set_option maxRecDepth 100000
set_option maxHeartbeats 1000000
def findT (C : TC) (n : Int) (k : ByteArray) (v : X.V4) : List Int × List Int := match getM C n k with | some e => X.findP e.lf v | none => ([], [])
theorem own_lo {T : TypeId} {α : Type} {sz lo lo' : Nat} {enc : α → List Value} {h : Hp} {s : Sl} {xs : List α} (ho : Own T sz enc lo h s xs) (hl : lo' ≤ lo) : Own T sz enc lo' h s xs :=
  ⟨ho.1, ho.2.1, fun a ha => by obtain ⟨b, c, q1, q2, q3⟩ := ho.2.2 a ha; exact ⟨b, c, q1, Nat.le_trans hl q2, q3⟩⟩
section
variable {NP : Part} {G : Nat → Prop} {h : Hp} {C : TC} {Q : List Value → Hp → Prop} {k m : Nat}
theorem getM_mem {n : Int} {nm : ByteArray} {e : EC} (h : getM C n nm = some e) : e ∈ standR C n := List.mem_of_find?_eq_some h
theorem Find_t (hT : Tb NP G h C) (hf : FewE C) (n : Int) (nm : ByteArray) (hok : ∀ e ∈ standR C n, X.OkM e.lf m ∧ X.KM e.lf) (hm : m < 2 ^ 15) (v : X.V4) (hv : X.VOk v) (hg : X.GM h)
    (hQ : ∀ h' st sn, Tb NP G h' C → Ext [] h h' → Own T_int 1 encIL h.size h' st (findT C n nm v).1 → Own T_int 1 encIL h.size h' sn (findT C n nm v).2 → Q [.slice st.a st.n st.c, .slice sn.a sn.n sn.c] h') : S_table_Store_Find (some ⟨C.s, 0, none⟩) n nm v.k v.n v.f v.s h Q := by
  refine O_table_Store_Find _ _ _ _ _ _ _ ?_
  delta F_table_Store_Find rI rB rS rP rM rL vI vB vS vP vM vL vC vA ad nb gb wi bl bz tn isn sib pu oc
  refine newI fun h1 s1 b1 e1 => ?_
  have T1 := TbX.e0 hT e1
  refine get_t T1 hf n nm fun h2 e2 => ?_
  have T2 := TbX.e0 T1 e2
  have e02 := e1.trans0 e2
  unfold findT at hQ
  cases hgm : getM C n nm with
  | none =>
    rw [hgm] at hQ
    refine ⟨none, rfl, ?_⟩
    rw [if_pos (by rfl)]
    exact hQ h2 ⟨none, 0, 0⟩ ⟨none, 0, 0⟩ T2 e02 (Own.nil _ _) (Own.nil _ _)
  | some e =>
    rw [hgm] at hQ
    refine ⟨some ⟨e.eb, 0, none⟩, rfl, ?_⟩
    rw [if_neg (by simp)]
    simp only [nilW_some]
    have hmem := getM_mem hgm
    obtain ⟨r, j, hr, hj, _⟩ := standR_mem hmem
    have hb := Tb.ent T2 hmem
    refine ⟨some ⟨e.ix, 0, none⟩, by rw [addr_mk, rd_blk hb]; rfl, ?_⟩
    have rv : ∀ q : Nat, rd h2 (Addr.add ⟨h.size, 0, none⟩ q) = (#[Value.int .i64 v.k, .int .i64 v.n, .float .f64 v.f, .string v.s] : Array Value)[q]? := fun q => by rw [addr_mk, rd_blk (e2.get b1 (by simp)), Nat.zero_add]
    refine ⟨v.k, rv 0, v.n, rv 1, v.f, rv 2, v.s, rv 3, ?_⟩
    obtain ⟨hat, _, _⟩ := relAt_mem hr
    obtain ⟨o, q, _, _⟩ := Tb.on T2 (.ix (n - 1).toNat j) nofun
    simp only [tX, entAt, hat, Option.bind_some, hj, oP] at q
    obtain ⟨ok, km⟩ := hok e hmem
    refine X.Find_i q.2 ok hm km v hv (hg.ext e02) fun h3 st sn _ e3 o1 o2 => ⟨st, sn, rfl, ?_⟩
    exact hQ h3 st sn (TbX.e0 T2 e3) (e02.trans0 e3) (own_lo o1 e02.sz) (own_lo o2 e02.sz)
theorem begin_t (hT : Tb NP G h C) (ok : Mk k C.M) (r : Bool) (hQ : ∀ h', Tb NP G h' (withM C (beginM C.M r)) → KG G h h' → Q [.int .i64 (if C.M.L.l.length = 200 then 0 else (C.M.L.l.length : Int) + 1), .int .i64 (if C.M.L.l.length = 200 then 74 else 0)] h') : S_ssi_Ssi_Begin (some ⟨C.ss, 0, none⟩) r h Q := by
  obtain ⟨P, hS, H⟩ := Tb.onM hT
  exact Begin_z hS ok r fun h' s' k' => have q := H s' k'; hQ h' q.1 q.2
theorem commit_t (hT : Tb NP G h C) (ok : Mk k C.M) (hk : k < 1000) (x : Int) (hQ : ∀ h', Tb NP G h' (withM C (commitM C.M x).1) → KG G h h' → Q [.int .i64 (commitM C.M x).2] h') : S_ssi_Ssi_Commit (some ⟨C.ss, 0, none⟩) x h Q := by
  obtain ⟨P, hS, H⟩ := Tb.onM hT
  exact commitK_z hS ok hk x fun h' s' k' => have q := H s' k'; hQ h' q.1 q.2
theorem read_t (hT : Tb NP G h C) (ok : Mk k C.M) (x : Int) (y : ThingM) (hQ : ∀ h', Tb NP G h' (withM C (readM C.M x y)) → KG G h h' → Q [] h') : S_ssi_Ssi_Read (some ⟨C.ss, 0, none⟩) x y.kind y.name y.rel y.index y.n h Q := by
  obtain ⟨P, hS, H⟩ := Tb.onM hT
  exact Read_z hS ok x y fun h' s' k' => have q := H s' k'; hQ h' q.1 q.2
theorem edges_t (hT : Tb NP G h C) (hQ : Q [pt C.e] h) : S_ssi_Ssi_Edges (some ⟨C.ss, 0, none⟩) h Q := by
  obtain ⟨P, hS, _⟩ := Tb.onM hT
  exact Edges_z hS hQ
theorem out_t (hT : Tb NP G h C) (ok : Mk k C.M) (hk : k < 1000) (x : Int) (hQ : ∀ h' s, Ext [] h h' → Own T_int 1 encIL h.size h' s (outE C.M.E x) → Q [.slice s.a s.n s.c] h') : S_edge_Edges_Out (some ⟨C.e, 0, none⟩) x h Q := by
  obtain ⟨P, hS, _⟩ := Tb.onM hT
  obtain ⟨P', hv, _, _⟩ := hS.onE
  have := mk_le hk
  exact Out_s hv ok.e (by omega) x hQ
theorem in_t (hT : Tb NP G h C) (ok : Mk k C.M) (hk : k < 1000) (x : Int) (hQ : ∀ h' s, Ext [] h h' → Own T_int 1 encIL h.size h' s (inE C.M.E x) → Q [.slice s.a s.n s.c] h') : S_edge_Edges_In (some ⟨C.e, 0, none⟩) x h Q := by
  obtain ⟨P, hS, _⟩ := Tb.onM hT
  obtain ⟨P', hv, _, _⟩ := hS.onE
  have := mk_le hk
  exact In_s hv ok.e (by omega) x hQ
end
section
variable {h : Hp} {Q : List Value → Hp → Prop}
theorem own_rdI {lo : Nat} {l : Sl} {xs : List Int} (ho : Own T_int 1 encIL lo h l xs) {i : Nat} (hi : i < xs.length) : ∃ a, l.a = some a ∧ rd h (Addr.add a (i * 1)) = some (.int .i64 xs[i]) := by
  obtain ⟨b, o, ha, hr⟩ := ho.sl.rd (fun _ => rfl) hi
  refine ⟨_, ha, ?_⟩
  have := hr 0 (by omega)
  rw [addr_mk]
  simpa using this
abbrev numV (n : Int) : X.V4 := ⟨2, n, 0, ByteArray.mk #[]⟩
abbrev colA : N.ColM := ⟨ByteArray.mk #[97], 2, false, 0, 0, 0, ByteArray.mk #[]⟩
theorem num_t (n : Int) (hQ : ∀ h', Ext [] h h' → Q [X.agg4 (numV n)] h') : S_liverylaw19_num n h Q := by
  refine O_liverylaw19_num _ ?_
  delta F_liverylaw19_num rI rB rS rP rM rL vI vB vS vP vM vL vC vA ad nb gb wi bl bz tn isn sib pu oc
  refine newI fun h1 s1 b1 e1 => ?_
  refine st_blk b1 (by simp) fun h2 z2 b2 e2 => ?_
  have e02 : Ext [] h h2 := ⟨by rw [z2, s1]; omega, fun b hb _ => by rw [e2.old b (by omega) (by simp; omega), e1.old b hb (by simp)]⟩
  simp only [addr0, addr_mk]
  refine ⟨2, by rw [rd_blk b2]; rfl, n, by rw [rd_blk b2]; rfl, 0, by rw [rd_blk b2]; rfl, ByteArray.mk #[], by rw [rd_blk b2]; rfl, ?_⟩
  exact hQ h2 e02
theorem one_t (hQ : ∀ h', Ext [] h h' → Own T_api_Column 7 N.encC h.size h' ⟨some ⟨h.size, 0, none⟩, 1, 1⟩ [colA] → Q [.slice (some ⟨h.size, 0, none⟩) 1 1] h') : S_liverylaw19_one h Q := by
  refine O_liverylaw19_one ?_
  delta F_liverylaw19_one rI rB rS rP rM rL vI vB vS vP vM vL vC vA ad nb gb wi bl bz tn isn sib pu oc
  refine newI fun h1 s1 b1 e1 => ?_
  exact hQ h1 e1 ⟨rfl, nofun, fun a ha => by cases ha; exact ⟨h.size, _, rfl, Nat.le_refl _, b1, Nat.le_refl _, by simp, rfl⟩⟩
theorem ints_t {a b : Sl} {xs ys : List Int} {la lb : Nat} (ha : Own T_int 1 encIL la h a xs) (hb : Own T_int 1 encIL lb h b ys) (hl : xs.length ≤ 2 ^ 40) (hQ : Q [.bool (decide (xs = ys))] h) : S_liverykeep_Ints a b h Q := by
  refine O_liverykeep_Ints _ _ ?_
  delta F_liverykeep_Ints rI rB rS rP rM rL vI vB vS vP vM vL vC vA ad nb gb wi bl bz tn isn sib pu oc
  have na := ha.1
  have nb := hb.1
  by_cases e : xs.length = ys.length
  rotate_left
  · rw [if_pos (by rw [na, nb]; simp; omega)]
    rw [show decide (xs = ys) = false from decide_eq_false fun q => e (by rw [q])] at hQ
    exact hQ
  rw [if_neg (by rw [na, nb]; simp; omega)]
  intro X1 hX1
  have hE : ∀ i : Nat, i ≤ xs.length → (xs.take i = ys.take i) → X1 [.int .i64 (i : Int)] h := by
    intro i
    generalize hj : xs.length - i = j
    induction j generalizing i with
    | zero =>
      intro hi ht
      refine hX1 _ _ ?_
      rw [if_neg (by simp; omega)]
      have hi' : i = xs.length := by omega
      rw [hi', List.take_length, e, List.take_length] at ht
      rw [show decide (xs = ys) = true from decide_eq_true ht] at hQ
      exact hQ
    | succ j ih =>
      intro hi ht
      refine hX1 _ _ ?_
      rw [if_pos (by simp; omega)]
      have h1 : i < xs.length := by omega
      have h2 : i < ys.length := by omega
      obtain ⟨aa, haa, ra⟩ := own_rdI ha h1
      obtain ⟨ab, hab, rb⟩ := own_rdI hb h2
      rw [haa, hab]
      simp only [nilW_some, Int.toNat_natCast]
      refine ⟨by omega, by omega, xs[i], ra, ?_⟩
      refine ⟨by omega, by omega, ys[i], rb, ?_⟩
      by_cases q : xs[i] = ys[i]
      · rw [if_neg (by simpa using q)]
        have hw : IntKind.wrap .i64 ((i : Int) + 1) = ((i + 1 : Nat) : Int) := by rw [wrap64 (by omega) (by omega)]; simp
        rw [hw]
        refine ih (i + 1) (by omega) (by omega) ?_
        rw [List.take_succ_eq_append_getElem h1, List.take_succ_eq_append_getElem h2, ht, q]
      · rw [if_pos (by simpa using q)]
        rw [show decide (xs = ys) = false from decide_eq_false fun p => q (by simp only [p])] at hQ
        exact hQ
  exact hE 0 (Nat.zero_le _) (by simp)
theorem has_t {a : Sl} {xs : List Int} {la : Nat} (x : Int) (ha : Own T_int 1 encIL la h a xs) (hl : xs.length ≤ 2 ^ 40) (hQ : Q [.bool (decide (x ∈ xs))] h) : S_liverykeep_Has a x h Q := by
  refine O_liverykeep_Has _ _ ?_
  delta F_liverykeep_Has rI rB rS rP rM rL vI vB vS vP vM vL vC vA ad nb gb wi bl bz tn isn sib pu oc
  have na := ha.1
  intro X1 hX1
  have hE : ∀ i : Nat, i ≤ xs.length → (x ∉ xs.take i) → X1 [.int .i64 (i : Int)] h := by
    intro i
    generalize hj : xs.length - i = j
    induction j generalizing i with
    | zero =>
      intro hi ht
      refine hX1 _ _ ?_
      rw [if_neg (by simp; omega)]
      have hi' : i = xs.length := by omega
      rw [hi', List.take_length] at ht
      rw [show decide (x ∈ xs) = false from decide_eq_false ht] at hQ
      exact hQ
    | succ j ih =>
      intro hi ht
      refine hX1 _ _ ?_
      rw [if_pos (by simp; omega)]
      have h1 : i < xs.length := by omega
      obtain ⟨aa, haa, ra⟩ := own_rdI ha h1
      rw [haa]
      simp only [nilW_some, Int.toNat_natCast]
      refine ⟨by omega, by omega, xs[i], ra, ?_⟩
      by_cases q : xs[i] = x
      · rw [if_pos (by simpa using q)]
        rw [show decide (x ∈ xs) = true from decide_eq_true (q ▸ List.getElem_mem h1)] at hQ
        exact hQ
      · rw [if_neg (by simpa using q)]
        have hw : IntKind.wrap .i64 ((i : Int) + 1) = ((i + 1 : Nat) : Int) := by rw [wrap64 (by omega) (by omega)]; simp
        rw [hw]
        refine ih (i + 1) (by omega) (by omega) ?_
        rw [List.take_succ_eq_append_getElem h1]
        simp only [List.mem_append, List.mem_singleton, not_or]
        exact ⟨ht, fun e => q e.symm⟩
  exact hE 0 (Nat.zero_le _) (by simp)
end
end Go.Lift.T

/- Things that were read: a table and what lies beside it; what an owner gets. -/
import Derived.Test.YtifmibpjpnpcpaaW13g
set_option linter.unusedSimpArgs false
set_option linter.unusedVariables false
namespace Go.Lift
open Go Go.Proofs Go.RowKit Go.Shelf
set_option maxRecDepth 100000
/-- The blocks of G are as they were. -/
structure KG (G : Nat → Prop) (h h' : Hp) : Prop where
  sz : h.size ≤ h'.size
  old : ∀ b, G b → h'[b]? = h[b]?
def GX (G : Nat → Prop) (h h' : Hp) : Nat → Prop := fun b => G b ∨ (h.size ≤ b ∧ b < h'.size)
def Sv (G : Nat → Prop) (h : Hp) (t : Nat) (S : SM) : Prop := (∀ b, G b → b < h.size) ∧ ∃ mb C, TabS 0 h t mb C S.each S.all S.fine S.csn ∧ mS C = S.m ∧ ∀ b, FS t mb C b → ¬ G b
/-- .. and this is an owner's map. -/
def SvO (G : Nat → Prop) (h : Hp) (t : Nat) (S : SM) (o : Int) (m : Nat) : Prop := (∀ b, G b → b < h.size) ∧ ∃ mb C, TabS 0 h t mb C S.each S.all S.fine S.csn ∧ mS C = S.m ∧ (∀ b, FS t mb C b → ¬ G b) ∧ ∃ c, afind C o = some c ∧ c.b = m
section
variable {G G' : Nat → Prop} {h h' h'' : Hp} {t m : Nat} {S : SM} {o : Int} {Q : List Value → Hp → Prop}
theorem KG.refl (G : Nat → Prop) (h : Hp) : KG G h h := ⟨Nat.le_refl _, fun _ _ => rfl⟩
theorem KG.trans (h1 : KG G h h') (h2 : KG G h' h'') : KG G h h'' := ⟨Nat.le_trans h1.sz h2.sz, fun b hb => by rw [h2.old b hb, h1.old b hb]⟩
theorem KG.anti (h1 : KG G h h') (hs : ∀ b, G' b → G b) : KG G' h h' := ⟨h1.sz, fun b hb => h1.old b (hs b hb)⟩
theorem KG.get (h1 : KG G h h') {b : Nat} {o : Obj} (hb : h[b]? = some o) (hG : G b) : h'[b]? = some o := by rw [h1.old b hG, hb]
theorem kg_ext {L : List Nat} (he : Ext L h h') (hG : ∀ b, G b → b < h.size) (hL : ∀ b ∈ L, ¬ G b) : KG G h h' := ⟨he.sz, fun b hb => he.old b (hG b hb) fun hm => hL b hm hb⟩
theorem kg_ext0 (he : Ext [] h h') (hG : ∀ b, G b → b < h.size) : KG G h h' := kg_ext he hG (by simp)
theorem Sv.lt (hS : Sv G h t S) : ∀ b, G b → b < h.size := hS.1
theorem SvO.lt (hS : SvO G h t S o m) : ∀ b, G b → b < h.size := hS.1
theorem Sv.anti (hS : Sv G h t S) (hs : ∀ b, G' b → G b) : Sv G' h t S := by
  obtain ⟨h1, mb, C, h2, h3, h4⟩ := hS
  exact ⟨fun b hb => h1 b (hs b hb), mb, C, h2, h3, fun b hb hg => h4 b hb (hs b hg)⟩
theorem SvO.sv (hS : SvO G h t S o m) : Sv G h t S := by
  obtain ⟨h1, mb, C, h2, h3, h4, _⟩ := hS
  exact ⟨h1, mb, C, h2, h3, h4⟩
theorem Sv.ext0 (hS : Sv G h t S) (he : Ext [] h h') : Sv G h' t S := by
  obtain ⟨h1, mb, C, h2, h3, h4⟩ := hS
  have := he.sz
  exact ⟨fun b hb => by have := h1 b hb; omega, mb, C, h2.ext0 he, h3, h4⟩
theorem SvO.ext0 (hS : SvO G h t S o m) (he : Ext [] h h') : SvO G h' t S o m := by
  obtain ⟨h1, mb, C, h2, h3, h4, h5⟩ := hS
  have := he.sz
  exact ⟨fun b hb => by have := h1 b hb; omega, mb, C, h2.ext0 he, h3, h4, h5⟩
theorem Sv.more (hS : Sv G h t S) (he : Ext [] h h') : Sv (GX G h h') h' t S := by
  obtain ⟨h1, mb, C, h2, h3, h4⟩ := hS
  have hz := he.sz
  refine ⟨fun b hb => ?_, mb, C, h2.ext0 he, h3, fun b hb hg => ?_⟩
  · rcases hb with hb | hb
    · have := h1 b hb; omega
    · exact hb.2
  · rcases hg with hg | hg
    · exact h4 b hb hg
    · have := (h2.lt hb).2; omega
/-- The list apart from G. -/
theorem Sv.outL {mb : Nat} {C : CC} (h4 : ∀ b, FS t mb C b → ¬ G b) (o : Int) : ∀ b ∈ t :: fb C o, ¬ G b := by
  intro b hb
  rcases List.mem_cons.1 hb with rfl | hb
  · exact h4 _ (Or.inl rfl)
  · unfold fb at hb
    split at hb
    · cases hb
    · rename_i c hc
      simp at hb
      exact h4 b (Or.inr (Or.inr ⟨o, c, hc, hb⟩))
/-- Reading an owner's entry. -/
theorem Sv.has (hS : Sv G h t S) (o : Int) : ∃ mb, rd h (Addr.add ⟨t, 0, none⟩ 2) = some (.map (some mb)) ∧ ∃ es r, mapAt h (some mb) es ∧ KeysLike (.int .i64 o) es ∧ mgetD (.int .i64 o) es (.map none) = .map r ∧ MapOr ekT evU h r (tU (thgs S.m o)) ∧
    ((r = none ∧ afind S.m o = none) ∨ ∃ m, r = some m ∧ SvO G h t S o m) := by
  obtain ⟨h1, mb, C, h2, h3, h4⟩ := hS
  obtain ⟨es, m1, m2, m3⟩ := tab_has h2 o
  refine ⟨mb, by rw [addr_mk, rd_blk h2.blk]; rfl, es, _, m1, m2, m3, ?_, ?_⟩
  · rw [← h3]; exact tab_in h2 o
  · cases hf : afind C o with
    | none => exact Or.inl ⟨rfl, by rw [← h3, afind_amap, hf]; rfl⟩
    | some c => exact Or.inr ⟨c.b, rfl, h1, mb, C, h2, h3, h4, c, hf, rfl⟩
theorem SvO.has (hS : SvO G h t S o m) : ∃ mb, rd h (Addr.add ⟨t, 0, none⟩ 2) = some (.map (some mb)) ∧ ∃ es, mapAt h (some mb) es ∧ KeysLike (.int .i64 o) es ∧ mgetD (.int .i64 o) es (.map none) = .map (some m) := by
  obtain ⟨h1, mb, C, h2, h3, h4, c, hc, rfl⟩ := hS
  obtain ⟨es, m1, m2, m3⟩ := tab_has h2 o
  rw [hc] at m3
  exact ⟨mb, by rw [addr_mk, rd_blk h2.blk]; rfl, es, m1, m2, m3⟩
theorem SvO.inn (hS : SvO G h t S o m) : IsMap ekT evU h m (tU (thgs S.m o)) ∧ afind S.m o = some (thgs S.m o) := by
  obtain ⟨h1, mb, C, h2, h3, h4, c, hc, rfl⟩ := hS
  have e : afind S.m o = some c.l := by rw [← h3, afind_amap, hc]; rfl
  rw [thgs_some e]
  exact ⟨h2.inner o c hc, e⟩
theorem Sv.fld (hS : Sv G h t S) : rd h (Addr.add ⟨t, 0, none⟩ 0) = some (.int .i64 S.each) ∧ rd h (Addr.add ⟨t, 0, none⟩ 1) = some (.int .i64 S.all) ∧ rd h (Addr.add ⟨t, 0, none⟩ 3) = some (.int .i64 S.fine) ∧ rd h (Addr.add ⟨t, 0, none⟩ 4) = some (.int .i64 S.csn) := by
  obtain ⟨h1, mb, C, h2, h3, h4⟩ := hS
  refine ⟨?_, ?_, ?_, ?_⟩ <;> (rw [addr_mk, rd_blk h2.blk]; rfl)
def putS (S : SM) (o : Int) (x : ThingM) : SM := if x ∈ thgs S.m o then S else addS S o x 0
theorem SvO.put (hS : SvO G h t S o m) (hnd : (thgs S.m o).Nodup) (x : ThingM) : ∃ es c, h[m]? = some (.map es c) ∧ KeysLike (ekT x) es ∧ ∀ h1 : Hp, Ext [m] h h1 → h1[m]? = some (mput (ekT x) (evU ()) es c) → SvO G h1 t (putS S o x) o m ∧ KG G h h1 := by
  have hin := hS.inn
  obtain ⟨es, c, p1, p2, p3⟩ := hin.1.put x ()
  refine ⟨es, c, p1, p2, fun h1 he hb => ?_⟩
  have hm := p3 h1 hb
  rw [aput_tU] at hm
  obtain ⟨g1, mb, C, g2, g3, g4, c', hc, rfl⟩ := hS
  have hz := he.sz
  have hkg : KG G h h1 := kg_ext he g1 fun b hb => by
    simp at hb
    subst hb
    exact g4 _ (Or.inr (Or.inr ⟨o, c', hc, rfl⟩))
  refine ⟨⟨fun b hb => by have := g1 b hb; omega, mb, aput C o ⟨c'.b, if x ∈ thgs S.m o then thgs S.m o else thgs S.m o ++ [x]⟩, ?_, ?_, ?_, ⟨c'.b, if x ∈ thgs S.m o then thgs S.m o else thgs S.m o ++ [x]⟩, by rw [afind_aput, if_pos rfl], rfl⟩, hkg⟩
  · have := g2.setIn hc he (by intro b hb _; simpa using hb) hm (by
      split
      · exact hnd
      · rename_i hx
        rw [List.nodup_append]
        exact ⟨hnd, by simp, fun a ha b hb e => by simp at hb; subst hb; subst e; exact hx ha⟩)
    have hfl : (putS S o x).each = S.each ∧ (putS S o x).all = S.all ∧ (putS S o x).fine = S.fine ∧ (putS S o x).csn = S.csn := by
      unfold putS
      split <;> simp [addS]
    rw [hfl.1, hfl.2.1, hfl.2.2.1, hfl.2.2.2]
    exact this
  · show amap CM.l (aput C o _) = _
    rw [← aput_amap, show amap CM.l C = S.m from g3]
    unfold putS
    split
    · rename_i hx
      simp only
      exact aput_same hin.2
    · rfl
  · intro b hb
    rcases hb with hb | hb | ⟨o', c2, hc2, rfl⟩
    · exact g4 b (Or.inl hb)
    · exact g4 b (Or.inr (Or.inl hb))
    · rw [afind_aput] at hc2
      split at hc2
      · cases hc2; exact g4 _ (Or.inr (Or.inr ⟨o, c', hc, rfl⟩))
      · exact g4 _ (Or.inr (Or.inr ⟨o', c2, hc2, rfl⟩))
theorem SvO.setFine (hS : SvO G h t S o m) (f : Int) {K : Hp → Prop} (H : ∀ h', SvO G h' t { S with fine := f } o m → KG G h h' → K h') :
    stOk h (Addr.add ⟨t, 0, none⟩ 3) 1 ∧ wth (wrs h (Addr.add ⟨t, 0, none⟩ 3) 0 [.int .i64 f]) K := by
  obtain ⟨g1, mb, C, g2, g3, g4, g5⟩ := hS
  rw [addr_mk]
  refine st_blk g2.blk (by simp) fun h1 s1 b1 e1 => H h1 ⟨fun b hb => by have := g1 b hb; omega, mb, C, g2.setT b1 e1, g3, g4, g5⟩ (kg_ext e1 g1 fun b hb => ?_)
  simp at hb
  subst hb
  exact g4 _ (Or.inl rfl)
theorem fs_lose {mb : Nat} {C : CC} {p : ThingM → Bool} {b : Nat} (hb : FS t mb (loseC C o p) b) : FS t mb C b := by
  rcases hb with hb | hb | ⟨o', c2, hc2, rfl⟩
  · exact Or.inl hb
  · exact Or.inr (Or.inl hb)
  · unfold loseC at hc2
    split at hc2
    · exact Or.inr (Or.inr ⟨o', c2, hc2, rfl⟩)
    · rename_i c hc
      rw [afind_aput] at hc2
      split at hc2
      · cases hc2; exact Or.inr (Or.inr ⟨o, c, hc, rfl⟩)
      · exact Or.inr (Or.inr ⟨o', c2, hc2, rfl⟩)
theorem mS_lose (C : CC) (S : SM) (p : ThingM → Bool) (h3 : mS C = S.m) : mS (loseC C o p) = (loseS S o p).m ∧ (loseS S o p).fine = S.fine - (nF ((thgs (mS C) o).filter p) : Int) ∧ (loseS S o p).each = S.each ∧ (loseS S o p).all = S.all ∧ (loseS S o p).csn = S.csn := by
  unfold loseC loseS
  cases hf : afind C o with
  | none =>
    have e : afind S.m o = none := by rw [← h3, afind_amap, hf]; rfl
    rw [e, h3, thgs_none e]
    simp [nF]
  | some c =>
    have e : afind S.m o = some c.l := by rw [← h3, afind_amap, hf]; rfl
    rw [e, h3, thgs_some e]
    refine ⟨?_, rfl, rfl, rfl, rfl⟩
    show amap CM.l (aput C o _) = _
    rw [← aput_amap, show amap CM.l C = S.m from h3]
theorem lose_core {N mb : Nat} {C : CC} (g1 : ∀ b, G b → b < h.size) (g2 : TabS 0 h t mb C S.each S.all S.fine S.csn) (g3 : mS C = S.m) (g4 : ∀ b, FS t mb C b → ¬ G b) (hok : SOk N S) (hN : N ≤ 2 ^ 20) {f : Nat} {cs : Array Value} (p : ThingM → Bool)
    (hf : ∀ (x : ThingM) (g : Hp) (K : List Value → Hp → Prop), KG G h g → (∀ g', Ext [] g g' → K [.bool (p x)] g') → Fn PP f ((#[] ++ #[ekT x]) ++ cs) g K)
    (hQ : ∀ h', (∀ b, G b → b < h'.size) → TabS 0 h' t mb (loseC C o p) (loseS S o p).each (loseS S o p).all (loseS S o p).fine (loseS S o p).csn → mS (loseC C o p) = (loseS S o p).m → (∀ b, FS t mb (loseC C o p) b → ¬ G b) → KG G h h' → Q [] h') : S_siread_Table_lose (some ⟨t, 0, none⟩) o f cs h Q := by
  have hlen := thgs_len hok.nd o
  have hb := hok.bnd
  have h1 := nF_le (thgs S.m o)
  have h2 : nF (thgs S.m o) ≤ totF S.m := by have := totF_adel hok.nd o; omega
  have h3 := hok.fine
  have h4 := hok.all
  have h5 := hok.al
  refine lose_s g2 o (by rw [g3]; omega) (by rw [g3]; omega) p (fun x g K he hk => hf x g K (kg_ext he g1 (Sv.outL g4 o)) hk) fun h' hT he => ?_
  have hm := mS_lose (o := o) C S p g3
  have hz := he.sz
  have hkg : KG G h h' := kg_ext he g1 (Sv.outL g4 o)
  have hlt : ∀ b, G b → b < h'.size := fun b hb => by have := g1 b hb; omega
  have hT' : TabS 0 h' t mb (loseC C o p) (loseS S o p).each (loseS S o p).all (loseS S o p).fine (loseS S o p).csn := by
    rw [hm.2.1, hm.2.2.1, hm.2.2.2.1, hm.2.2.2.2]
    exact hT
  exact hQ h' hlt hT' hm.1 (fun b hb => g4 b (fs_lose hb)) hkg
theorem loseV_s {N : Nat} (hS : Sv G h t S) (hok : SOk N S) (hN : N ≤ 2 ^ 20) {f : Nat} {cs : Array Value} (p : ThingM → Bool)
    (hf : ∀ (x : ThingM) (g : Hp) (K : List Value → Hp → Prop), KG G h g → (∀ g', Ext [] g g' → K [.bool (p x)] g') → Fn PP f ((#[] ++ #[ekT x]) ++ cs) g K)
    (hQ : ∀ h', Sv G h' t (loseS S o p) → KG G h h' → Q [] h') : S_siread_Table_lose (some ⟨t, 0, none⟩) o f cs h Q := by
  obtain ⟨g1, mb, C, g2, g3, g4⟩ := hS
  exact lose_core g1 g2 g3 g4 hok hN p hf fun h' a b c d e => hQ h' ⟨a, mb, _, b, c, d⟩ e
theorem loseO_s {N : Nat} (hS : SvO G h t S o m) (hok : SOk N S) (hN : N ≤ 2 ^ 20) {f : Nat} {cs : Array Value} (p : ThingM → Bool)
    (hf : ∀ (x : ThingM) (g : Hp) (K : List Value → Hp → Prop), KG G h g → (∀ g', Ext [] g g' → K [.bool (p x)] g') → Fn PP f ((#[] ++ #[ekT x]) ++ cs) g K)
    (hQ : ∀ h', SvO G h' t (loseS S o p) o m → KG G h h' → Q [] h') : S_siread_Table_lose (some ⟨t, 0, none⟩) o f cs h Q := by
  obtain ⟨g1, mb, C, g2, g3, g4, c, hc, rfl⟩ := hS
  refine lose_core g1 g2 g3 g4 hok hN p hf fun h' a b c' d e => hQ h' ⟨a, mb, _, b, c', d, ?_⟩ e
  unfold loseC
  rw [hc]
  exact ⟨⟨c.b, c.l.filter fun x => !p x⟩, by simp only [afind_aput, if_true], rfl⟩
/-- An owner that had no map has one. -/
theorem Sv.born (hS : Sv G h t S) (ho : afind S.m o = none) {h1 : Hp} (he1 : Ext [] h h1) (hsz : h1.size = h.size + 1) (hb : h1[h.size]? = some (.map #[] 0)) :
    ∃ mb, rd h1 (Addr.add ⟨t, 0, none⟩ 2) = some (.map (some mb)) ∧ ∃ es c, h1[mb]? = some (.map es c) ∧ KeysLike (.int .i64 o) es ∧ ∀ h2, Ext [mb] h1 h2 → h2[mb]? = some (mput (.int .i64 o) (.map (some h.size)) es c) → SvO G h2 t (bornS S o) o h.size ∧ KG G h h2 := by
  obtain ⟨g1, mb, C, g2, g3, g4⟩ := hS
  have g2' := g2.ext0 he1
  obtain ⟨es, c, p1, p2, p3⟩ := g2'.outer.put o h.size
  have hz := he1.sz
  refine ⟨mb, by rw [addr_mk, rd_blk g2'.blk]; rfl, es, c, p1, p2, fun h2 he2 hb2 => ?_⟩
  have hz2 := he2.sz
  have hm := p3 h2 hb2
  have hcn : afind C o = none := by
    have := ho
    rw [← g3, afind_amap] at this
    cases hc : afind C o with
    | none => rfl
    | some c => rw [hc] at this; cases this
  have hne := g2.t_ne
  have hmt := (g2.lt (b := mb) (Or.inr (Or.inl rfl))).2
  have htt := (g2.lt (b := t) (Or.inl rfl)).2
  have hbl : ∀ o' c', afind C o' = some c' → c'.b < h.size := fun o' c' hc => (g2.lt (Or.inr (Or.inr ⟨o', c', hc, rfl⟩))).2
  have hkg : KG G h h2 := (kg_ext0 he1 g1).trans (kg_ext he2 (fun b hb => by have := g1 b hb; omega) fun b hb => by
    simp at hb; subst hb; exact g4 _ (Or.inr (Or.inl rfl)))
  have hbs : bornS S o = { S with m := aput S.m o [] } := by unfold bornS; rw [ho]
  rw [hbs]
  have hfa : ∀ o', afind (aput C o ⟨h.size, []⟩) o' = if o' = o then some ⟨h.size, []⟩ else afind C o' := fun o' => afind_aput _ _ _ _
  refine ⟨⟨fun b hb => by have := g1 b hb; omega, mb, aput C o ⟨h.size, []⟩, ⟨he2.get g2'.blk (by simp; exact hne.1.symm), ?_, aput_nodup g2.nd _ _, fun o' c' hf' => ?_, fun o' c' hf' => ?_, fun o' c' hf' => Nat.zero_le _, fun o1 o2 c1 c2 hf1 hf2 hn => ?_, fun o' c' hf' => ?_, Nat.zero_le _, Nat.zero_le _⟩, ?_, ?_, ⟨h.size, []⟩, by rw [hfa, if_pos rfl], rfl⟩, hkg⟩
  · rw [← aput_amap]
    exact hm
  · rw [hfa] at hf'
    split at hf'
    · cases hf'
      exact ⟨#[], 0, he2.get hb (by simp; omega), rfl, Born.nil 0⟩
    · rename_i hno
      exact (g2'.inner o' c' hf').ext he2 (by simp; exact g2.smb o' c' hf')
  · rw [hfa] at hf'
    split at hf'
    · cases hf'; simp
    · exact g2.tnd o' c' hf'
  · rw [hfa] at hf1 hf2
    split at hf1 <;> split at hf2
    · omega
    · cases hf1; have := hbl _ _ hf2; simp only; omega
    · cases hf2; have := hbl _ _ hf1; simp only; omega
    · exact g2.sep o1 o2 c1 c2 hf1 hf2 hn
  · rw [hfa] at hf'
    split at hf'
    · cases hf'; simp only; omega
    · exact g2.smb o' c' hf'
  · show amap CM.l (aput C o _) = _
    rw [← aput_amap, show amap CM.l C = S.m from g3]
  · intro b hb
    rcases hb with hb | hb | ⟨o', c2, hc2, rfl⟩
    · exact g4 b (Or.inl hb)
    · exact g4 b (Or.inr (Or.inl hb))
    · rw [hfa] at hc2
      split at hc2
      · cases hc2
        intro hg
        have := g1 _ hg
        simp only at this
        omega
      · exact g4 _ (Or.inr (Or.inr ⟨o', c2, hc2, rfl⟩))
end
end Go.Lift

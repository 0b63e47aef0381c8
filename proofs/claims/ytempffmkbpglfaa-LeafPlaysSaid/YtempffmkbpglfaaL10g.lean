/- Leaves in order: one leaf's keys are replaced. -/
import Derived.Test.YtempffmkbpglfaaL10f
set_option linter.unusedSimpArgs false
set_option linter.unusedVariables false
namespace Go.Lift
open Go Go.Proofs
set_option maxRecDepth 100000
theorem Own.extT {α : Type} {T : TypeId} {sz : Nat} {enc : α → List Value} {S : List Nat} {lo : Nat} {h h' : Hp} {s : Sl} {xs : List α} (hs : Own T sz enc lo h s xs) (he : Ext S h h') (hS : Other T h S) : Own T sz enc lo h' s xs := by
  refine hs.ext he fun a ha hm => ?_
  obtain ⟨b, c, h1, _, h3, _⟩ := hs.2.2 a ha
  rw [h1] at hm
  exact hS b hm c _ h3
theorem other_blk {h : Hp} {b : Nat} {c : Array Value} {T T' : TypeId} (hb : Blk h b c T) (hT : T ≠ T') : ∀ c' fz, h[b]? ≠ some (.cells c' T' fz) := by
  intro c' fz e
  rw [hb] at e
  cases e
  exact hT rfl
section
variable {lo : Nat} {h h' : Hp} {x : Nat} {M : LeafM} {ls : Sl} {C : List OneC}
/-- What a leaf's memory is apart from. -/
theorem one_apart (ho : ∀ c ∈ C, OneAt lo h c) {i : Nat} (hi : i < C.length) {T : TypeId} (h1 : T_leaf_one ≠ T) (h2 : T_string ≠ T) : Other T h ((C[i]).b :: sBlk (C[i]).ks) := by
  have hc := ho _ (List.getElem_mem hi)
  intro b hb c fz
  rw [List.mem_cons] at hb
  rcases hb with rfl | hb
  · exact other_blk hc.blk h1 c fz
  · exact hc.keys.other h2 b hb c fz
theorem LeafAt.setOne (hl : LeafAt lo h x M ls C) {i : Nat} (hi : i < C.length) {ks : Sl} {keys : List ByteArray} (he : Ext ((C[i]).b :: sBlk (C[i]).ks) h h')
    (hb : Blk h' (C[i]).b #[.int .i64 (C[i]).m.n, .string (C[i]).m.bound, .slice ks.a ks.n ks.c] T_leaf_one) (hk : Own T_string 1 encB lo h' ks keys) (hs : ∀ b ∈ sBlk ks, b ∈ sBlk (C[i]).ks ∨ h.size ≤ b) :
    LeafAt lo h' x { M with l := M.l.set i { (C[i]).m with keys := keys } } ls (C.set i ⟨(C[i]).b, ks, { (C[i]).m with keys := keys }⟩) := by
  have hap := fun {T} => one_apart (T := T) hl.ones hi
  have hbs : (C.set i ⟨(C[i]).b, ks, { (C[i]).m with keys := keys }⟩).map OneC.b = C.map OneC.b := by
    rw [List.map_set]
    apply List.ext_getElem?
    intro j
    rw [List.getElem?_set]
    split
    · rename_i e; subst e
      rw [if_pos (by simpa using hi), List.getElem?_map, List.getElem?_eq_getElem hi]
      rfl
    · rfl
  have hpw := List.pairwise_iff_getElem.1 hl.sep
  have hndp := List.pairwise_iff_getElem.1 hl.nd
  have hother : ∀ j (hj : j < C.length), j ≠ i → OneAt lo h' C[j] := by
    intro j hj hji
    have hc := hl.ones _ (List.getElem_mem hj)
    have hne : (C[j]).b ≠ (C[i]).b := by
      rcases Nat.lt_or_gt_of_ne hji with g | g
      · have := hndp j i (by simpa using hj) (by simpa using hi) g; simpa using this
      · have := hndp i j (by simpa using hi) (by simpa using hj) g; simpa using Ne.symm this
    have hci := hl.ones _ (List.getElem_mem hi)
    refine ⟨he.get hc.blk ?_, hc.le, hc.keys.ext he fun a ha hm => ?_⟩
    · intro hm
      rw [List.mem_cons] at hm
      rcases hm with g | g
      · exact hne g
      · exact hci.keys.other (T' := T_leaf_one) (by decide) _ g _ _ hc.blk
    · rw [List.mem_cons] at hm
      have hin : a.block ∈ sBlk (C[j]).ks := mem_sBlk.2 ⟨a, ha, rfl⟩
      rcases hm with g | g
      · have := hc.keys.other (T' := T_leaf_one) (by decide) _ hin
        rw [g] at this
        exact this _ _ hci.blk
      · rcases Nat.lt_or_gt_of_ne hji with g2 | g2
        · exact hpw j i hj hi g2 _ hin g
        · exact hpw i j hi hj g2 _ g hin
  refine ⟨he.get hl.blk ?_, hl.le, ?_, by rw [hbs]; exact hl.nd, ?_, ?_, ?_⟩
  · intro hm
    exact hap (T := T_leaf_Leaves) (by decide) (by decide) _ hm _ _ hl.blk
  · rw [hbs]
    exact hl.ptrs.extT he (hap (by decide) (by decide))
  · intro c hc
    obtain ⟨j, hj, rfl⟩ := List.getElem_of_mem hc
    rw [List.getElem_set]
    have hj2 : j < C.length := by simpa using hj
    split
    · have hci := hl.ones _ (List.getElem_mem hi)
      exact ⟨hb, hci.le, hk⟩
    · rename_i e
      exact hother j hj2 fun e2 => e e2.symm
  · rw [List.pairwise_iff_getElem]
    intro j k hj hk2 hjk b hb1 hb2
    have hj2 : j < C.length := by simpa using hj
    have hk3 : k < C.length := by simpa using hk2
    rw [List.getElem_set] at hb1 hb2
    have fresh : ∀ m (hm : m < C.length), b ∈ sBlk (C[m]).ks → h.size ≤ b → False := by
      intro m hm hbm hsz
      obtain ⟨a, ha, hab⟩ := mem_sBlk.1 hbm
      obtain ⟨b', c', q1, _, q3, _⟩ := (hl.ones _ (List.getElem_mem hm)).keys.2.2 a ha
      have := blk_lt q3
      rw [q1] at hab
      simp at hab
      omega
    split at hb1
    · rename_i e
      rw [if_neg (by omega)] at hb2
      rcases hs b hb1 with g | g
      · subst e; exact hpw i k hi hk3 hjk b g hb2
      · exact fresh k hk3 hb2 g
    · split at hb2
      · rename_i e1 e2
        rcases hs b hb2 with g | g
        · subst e2; exact hpw j i hj2 hi hjk b hb1 g
        · exact fresh j hj2 hb1 g
      · exact hpw j k hj2 hk3 hjk b hb1 hb2
  · rw [List.map_set, hl.mods]
/-- What the list's own memory is apart from. -/
theorem list_apart (hl : LeafAt lo h x M ls C) {T : TypeId} (h1 : T_leaf_Leaves ≠ T) (h2 : T_pleaf_one ≠ T) : Other T h (x :: sBlk ls) := by
  intro b hb c fz
  rw [List.mem_cons] at hb
  rcases hb with rfl | hb
  · exact other_blk hl.blk h1 c fz
  · exact hl.ptrs.other h2 b hb c fz
theorem OneAt.extL (hl : LeafAt lo h x M ls C) {c : OneC} (hc : OneAt lo h c) (he : Ext (x :: sBlk ls) h h') : OneAt lo h' c := by
  refine ⟨he.get hc.blk fun hm => ?_, hc.le, hc.keys.extT he (list_apart hl (by decide) (by decide))⟩
  exact list_apart hl (T := T_leaf_one) (by decide) (by decide) _ hm _ _ hc.blk
/-- The list is another one, of the same leaves or fewer, in their order. -/
theorem LeafAt.sub (hl : LeafAt lo h x M ls C) {ls' : Sl} {C' : List OneC} {nx : Int} (hC : C'.Sublist C) (he : Ext (x :: sBlk ls) h h') (hb : Blk h' x #[.int .i64 M.fan, .slice ls'.a ls'.n ls'.c, .int .i64 nx] T_leaf_Leaves)
    (hp : Own T_pleaf_one 1 encP lo h' ls' (C'.map OneC.b)) : LeafAt lo h' x ⟨M.fan, nx, C'.map OneC.m⟩ ls' C' :=
  ⟨hb, hl.le, hp, hl.nd.sublist (hC.map _), fun c hc => (hl.ones c (hC.subset hc)).extL hl he, hl.sep.sublist hC, rfl⟩
/-- The list has one leaf more. -/
theorem LeafAt.more (hl : LeafAt lo h x M ls C) {ls' : Sl} {c : OneC} {nx : Int} {i : Nat} (he : Ext (x :: sBlk ls) h h') (hb : Blk h' x #[.int .i64 M.fan, .slice ls'.a ls'.n ls'.c, .int .i64 nx] T_leaf_Leaves)
    (hp : Own T_pleaf_one 1 encP lo h' ls' ((C.take i ++ [c] ++ C.drop i).map OneC.b)) (hc : OneAt lo h' c) (hcb : ∀ d ∈ C, d.b ≠ c.b) (hck : ∀ d ∈ C, ∀ b ∈ sBlk d.ks, b ∉ sBlk c.ks) :
    LeafAt lo h' x ⟨M.fan, nx, (C.take i ++ [c] ++ C.drop i).map OneC.m⟩ ls' (C.take i ++ [c] ++ C.drop i) := by
  have hperm : (C.take i ++ [c] ++ C.drop i).Perm (c :: C) := by
    have h1 : (C.take i ++ [c] ++ C.drop i).Perm ([c] ++ (C.take i ++ C.drop i)) := by
      rw [List.append_assoc]
      exact List.perm_append_comm_assoc _ _ _
    rw [List.take_append_drop] at h1
    exact h1
  refine ⟨hb, hl.le, hp, ?_, fun d hd => ?_, ?_, rfl⟩
  · rw [(hperm.map _).nodup_iff, List.map_cons, List.nodup_cons]
    refine ⟨fun hm => ?_, hl.nd⟩
    obtain ⟨d, hd, hdb⟩ := List.mem_map.1 hm
    exact hcb d hd hdb
  · rw [hperm.mem_iff, List.mem_cons] at hd
    rcases hd with rfl | hd
    · exact hc
    · exact (hl.ones d hd).extL hl he
  · refine (hperm.pairwise_iff ?_).2 ?_
    · intro a b hab q hq1 hq2
      exact hab q hq2 hq1
    · rw [List.pairwise_cons]
      exact ⟨fun d hd b hb1 hb2 => hck d hd b hb2 hb1, hl.sep⟩
end
end Go.Lift

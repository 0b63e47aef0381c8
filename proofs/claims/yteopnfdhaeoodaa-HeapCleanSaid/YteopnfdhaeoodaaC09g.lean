/- The log of transactions: who runs, and the horizon. -/
import Derived.Test.YteopnfdhaeoodaaC09f
import Derived.Test.YteopnfdhaeoodaaC09a
set_option linter.unusedSimpArgs false
set_option linter.unusedVariables false
namespace Go.Lift
open Go Go.Proofs
set_option maxRecDepth 100000
theorem encIL_one (n : Int) : ∀ v ∈ encIL n, oneCell v = true := by intro v hv; simp at hv; subst hv; rfl
theorem zcInt : (zc PP T_int).size = 1 := by kernel_rfl
def nums (k : Nat) : List Int := (List.range k).map fun i : Nat => ((i : Int) + 1)
theorem nums_succ (k : Nat) : nums (k + 1) = nums k ++ [(k : Int) + 1] := by simp [nums, List.range_succ]
theorem nums_mem {k : Nat} {x : Int} : x ∈ nums k ↔ 1 ≤ x ∧ x ≤ k := by
  simp only [nums, List.mem_map, List.mem_range]
  constructor
  · rintro ⟨i, h1, h2⟩; omega
  · intro h1; exact ⟨(x - 1).toNat, by omega, by omega⟩
def LogM.runs (L : LogM) (x : Int) : Bool := (L.tx x.toNat).st == 1
def LogM.running (L : LogM) : List Int := (nums L.n).filter L.runs
def LogM.horizon (L : LogM) : Int := L.running.foldl (fun m x => mnI m (L.tx x.toNat).snap) L.clock
section
variable {h : Hp} {p : Nat} {L : LogM} {Q : List Value → Hp → Prop}
theorem Running_s (hl : IsLog h p L) (hQ : ∀ h' s, Ext [] h h' → Own T_int 1 encIL h.size h' s L.running → Q [.slice s.a s.n s.c] h') : S_clog_Log_Running (some ⟨p, 0, none⟩) h Q := by
  refine O_clog_Log_Running _ ?_
  unfold F_clog_Log_Running
  intro X hX
  have hn := hl.2.1
  have key : ∀ d k s h1, d + k = L.n → Ext [] h h1 → Own T_int 1 encIL h.size h1 s ((nums k).filter L.runs) → X [.slice s.a s.n s.c, .int .i64 ((k : Int) + 1)] h1 := by
    intro d
    induction d with
    | zero =>
      intro k s h1 hd e1 ho
      refine hX s _ _ ?_
      intro J hJ
      have l1 := hl.ext e1 (by simp)
      simp only [Option.isNone_some, Bool.not_false, if_true, nilW_some, addr_mk, rd_blk l1.1, Nat.zero_add, logC_n]
      refine ⟨_, rfl, ?_⟩
      refine hJ _ _ ?_
      rw [if_neg (by simp; omega)]
      have : k = L.n := by omega
      subst this
      exact hQ h1 s e1 ho
    | succ d ih =>
      intro k s h1 hd e1 ho
      refine hX s _ _ ?_
      intro J hJ
      have l1 := hl.ext e1 (by simp)
      simp only [Option.isNone_some, Bool.not_false, if_true, nilW_some, addr_mk, rd_blk l1.1, Nat.zero_add, logC_n]
      refine ⟨_, rfl, ?_⟩
      refine hJ _ _ ?_
      rw [if_pos (by simp; omega)]
      intro J2 hJ2
      rw [wrap64 (by omega) (by omega)] at hJ2
      simp only [nilW_some, addr_mk]
      have hx : L.has ((k : Int) + 1) = true := has_iff.2 ⟨by omega, by omega⟩
      have hrd := rd_tx0 l1 hx
      rw [show 0 + 0 + ((k : Int) + 1).toNat * 4 + 0 = ((k : Int) + 1).toNat * 4 by omega, hrd]
      refine ⟨by omega, by omega, _, rfl, ?_⟩
      have hns := nums_succ k
      by_cases hr : (L.tx ((k : Int) + 1).toNat).st = 1
      · rw [if_pos (by rw [hr]; rfl)]
        refine app1 (x := (k : Int) + 1) (cx := #[Value.int .i64 ((k : Int) + 1)]) ho rfl zcInt encIL_len encIL_one ?_ (by decide) e1.sz fun s' h' ho' he' _ => ?_
        · have := List.length_filter_le L.runs (nums k)
          simp [nums] at this ⊢
          omega
        · refine hJ2 s' _ ?_
          have e2 : Ext [] h h' := e1.trans he' fun b hb hlt => by have := ho.blk b hb; omega
          have := ih (k + 1) s' h' (by omega) e2 (by
            rw [hns, List.filter_append]
            have e0 : L.runs ((k : Int) + 1) = true := by unfold LogM.runs; simpa using hr
            simpa [e0] using ho')
          simpa using this
      · rw [if_neg (fun e => hr (eq_of_beq e))]
        refine hJ2 s _ ?_
        have := ih (k + 1) s h1 (by omega) e1 (by
          rw [hns, List.filter_append]
          have e0 : L.runs ((k : Int) + 1) = false := by unfold LogM.runs; simpa using hr
          simpa [e0] using ho)
        simpa using this
  have := key L.n 0 ⟨none, 0, 0⟩ h (by omega) (Ext.refl _ _) (by simpa [nums] using Own.nil _ _)
  simpa using this
theorem Horizon_s (hl : IsLog h p L) (hQ : ∀ h', Ext [] h h' → Q [.int .i64 L.horizon] h') : S_clog_Log_Horizon (some ⟨p, 0, none⟩) h Q := by
  refine O_clog_Log_Horizon _ ?_
  unfold F_clog_Log_Horizon
  refine O_clog_Log_Clock _ ?_
  unfold F_clog_Log_Clock
  rw [if_neg (by simp)]
  simp only [nilW_some, addr_mk, rd_blk hl.1, Nat.zero_add, logC_clock]
  refine ⟨_, rfl, _, rfl, ?_⟩
  refine Running_s hl fun h1 s e1 ho => ⟨s, rfl, ?_⟩
  have l1 := hl.ext e1 (by simp)
  intro X hX
  have hn := ho.1
  have hn2 := hl.2.1
  have hlen : L.running.length ≤ 200 := by
    have := List.length_filter_le L.runs (nums L.n)
    unfold LogM.running
    simp [nums] at this ⊢
    omega
  have key : ∀ d i, d + i = L.running.length → X [.int .i64 ((L.running.take i).foldl (fun m x => mnI m (L.tx x.toNat).snap) L.clock), .int .i64 (i : Int)] h1 := by
    intro d
    induction d with
    | zero =>
      intro i hd
      refine hX _ _ _ ?_
      rw [if_neg (by simp; omega), List.take_of_length_le (by omega)]
      exact hQ h1 e1
    | succ d ih =>
      intro i hd
      refine hX _ _ _ ?_
      rw [if_pos (by simp; omega)]
      obtain ⟨a, g1, g2⟩ := sl_get ho.sl (i := i) (by omega)
      rw [g1]
      simp only [nilW_some, addr_mk, Int.toNat_natCast]
      have hm0 : L.running[i]'(by omega) ∈ L.running := List.getElem_mem _
      have hm : L.running[i]'(by omega) ∈ nums L.n := (List.mem_filter.1 hm0).1
      have hx := nums_mem.1 hm
      have hrd := rd_tx2 l1 (has_iff.2 hx)
      refine ⟨by omega, by omega, _, g2, by omega, by omega, _, hrd, ?_⟩
      rw [wrap64 (by omega) (by omega)]
      have := ih (i + 1) (by omega)
      rw [List.take_add_one, List.getElem?_eq_getElem (by omega), Option.toList_some, List.foldl_append, show ((i + 1 : Nat) : Int) = (i : Int) + 1 by omega] at this
      exact this
  have := key L.running.length 0 (by omega)
  simpa using this
end
end Go.Lift

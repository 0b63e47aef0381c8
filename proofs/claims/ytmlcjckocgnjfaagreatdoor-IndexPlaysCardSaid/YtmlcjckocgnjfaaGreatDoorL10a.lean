/- slices.overlaps, slices.Insert of one element, slices.Delete of one, at one cell. -/
import Derived.Test.YtmlcjckocgnjfaaGreatDoorLvS
import Derived.Test.YtmlcjckocgnjfaaGreatDoorLf11
set_option linter.unusedSimpArgs false
set_option linter.unusedVariables false
namespace Go.Lift
open Go Go.Proofs
set_option maxRecDepth 100000
theorem fn_extern {P : Program} {f : FuncId} {fn : Func} {args : Array Value} {h : Hp} {Q : List Value → Hp → Prop} {e : Array Value → Sem Value} (hf : P.funcs[f]? = some fn) (hname : (fn.name == "runtime.NumGoroutine") = false)
    (hb : fn.body = none) (hn : Extern.findNext fn = none) (he : Extern.find fn = some e) (H : semW P (e args) h fun v h' => ∃ vs, v = packR vs ∧ Q vs h') : Fn P f args h Q := by
  unfold Fn callFunc
  simp only [semW_bind', semW_program, hf, hname, Bool.false_eq_true, if_false, hb, Option.isNone_none, if_true, semW_mark, hn, he, semW_pure]
  exact semW_mono _ (fun v h' hv => hv) _ H
theorem shp_blk {h : Hp} {b : Nat} {c : Array Value} {T : TypeId} {fz : Nat × Nat} (hb : h[b]? = some (.cells c T fz)) : shp h b = some (T, c.size) := by simp [shp, hb]
theorem frz_at {h : Hp} {b : Nat} {c : Array Value} {T : TypeId} (hb : Blk h b c T) (o : Nat) (sp) : frz h ⟨b, o, sp⟩ = false := by simp [frz, hb]
theorem overlaps_sem {P : Program} {params res : Array TypeId} {t e : TypeId} {sz : Nat} (hp : params[0]? = some t) (ht : P.underlying t = some (.slice e)) (hs : szOf P e = some sz) {h : Hp} {b1 b2 o1 o2 n1 c1 n2 c2 : Nat} {x1 x2 : Array Value} {T1 T2 : TypeId}
    (h1 : Blk h b1 x1 T1) (h2 : Blk h b2 x2 T2) (hne : b1 ≠ b2) {K : Value → Hp → Prop} (HK : K (.bool false) h) :
    semW P (Extern.SlicesOverlaps.overlaps params res #[.slice (some ⟨b1, o1, none⟩) n1 c1, .slice (some ⟨b2, o2, none⟩) n2 c2]) h K := by
  conv => arg 2; whnf
  simp only [hp, semW_bind', semW_underlying]
  refine ⟨_, ht, ?_⟩
  simp only [semW_bind', semW_sizeOf]
  refine ⟨sz, hs, ?_⟩
  split
  · exact HK
  · have hb : (b1 != b2) = true := by simpa using hne
    have hb' : (b1 == b2) = false := by simpa using hne
    simp only [semW_bind', semW_frozen, frz_at h1, frz_at h2, Bool.and_false, Bool.false_eq_true, if_false, hb, if_true]
    simp only [noView, viewAt, mayBeOne, stringish, semW_bind', semW_shape, shp_blk h1, shp_blk h2, Option.isSome_some, if_true, semW_pure, semW_frozen, frz_at h1, frz_at h2, Option.isSome_none, Bool.false_eq_true, if_false, Bool.and_false, Bool.false_and, Bool.or_false, hb']
    exact HK
end Go.Lift

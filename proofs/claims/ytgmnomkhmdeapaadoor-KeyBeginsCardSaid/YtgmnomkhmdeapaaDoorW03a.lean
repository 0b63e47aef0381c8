/- The library's functions on strings, by the shelf's contracts. -/
import Derived.Test.YtgmnomkhmdeapaaDoorLf03
import Derived.Test.YtgmnomkhmdeapaaDoorSh03
import Derived.Test.YtgmnomkhmdeapaaDoorW06a
import Derived.Test.YtgmnomkhmdeapaaDoorLvZ
set_option linter.unusedSimpArgs false
set_option linter.unusedVariables false
namespace Go.Lift
open Go Go.Proofs Go.RowKit
set_option maxRecDepth 100000
theorem kept_below {B : Nat} {w w' : World} (h : Below B w w') : Kept w w' := ⟨h.os, h.output, h.tape⟩
structure Lo (B : Nat) (h h' : Hp) : Prop where
  sz : h.size ≤ h'.size
  old : ∀ k, k < B → h'[k]? = h[k]?
theorem Lo.refl (B : Nat) (h : Hp) : Lo B h h := ⟨Nat.le_refl _, fun _ _ => rfl⟩
theorem Lo.trans {B : Nat} {a b c : Hp} (h1 : Lo B a b) (h2 : Lo B b c) : Lo B a c := ⟨Nat.le_trans h1.sz h2.sz, fun k hk => by rw [h2.old k hk, h1.old k hk]⟩
theorem Lo.ext {h h' : Hp} (hl : Lo h.size h h') : Ext [] h h' := ⟨hl.sz, fun b hb _ => hl.old b hb⟩
theorem lo_ext {B : Nat} {h h' : Hp} (he : Ext [] h h') (hB : B ≤ h.size) : Lo B h h' := ⟨he.sz, fun k hk => he.old k (by omega) (by simp)⟩
section
variable {h : Hp} {Q : List Value → Hp → Prop}
theorem fn_below {f : FuncId} {fn : Func} {c : Code} {args : Array Value} {B : Nat} {vs : List Value} (hf : PP.funcs[f]? = some fn) (hb : fn.body = some c) (hn : (fn.name == "runtime.NumGoroutine") = false)
    (hc : ∀ w : World, w.heap = h → Calls PP f args w fun e w' => e = .returned (packR vs) ∧ Below B w w') (hQ : ∀ h', Lo B h h' → Q vs h') : Fn PP f args h Q := by
  refine fn_of_calls hf hb hn fun w hw => ?_
  refine (hc w hw).mono fun e w' ⟨he, hbl⟩ => ⟨vs, he, kept_below hbl, hQ _ ⟨by rw [← hw]; exact hbl.size, fun k hk => by rw [← hw]; exact hbl.block k hk⟩⟩
theorem rd_cell {w : World} (hw : w.heap = h) {b : Nat} {cs : Array Value} {T : TypeId} (hb : Blk h b cs T) {i : Nat} {v : Value} (hv : cs[i]? = some v) : w.cell? ⟨b, i, none⟩ = some v := by
  unfold World.cell?
  rw [hw]
  unfold Blk at hb
  simp only [hb]
  exact hv
theorem Join_s {b n : Nat} {xs : List ByteArray} {T : TypeId} (hb : Blk h b (xs.map Value.string).toArray T) (hn : n = xs.length) (hl : (Lib.join (xs.map (·.data.toList)) []).length ≤ 2 ^ 40) (hl2 : xs.length ≤ 2 ^ 20)
    (hQ : ∀ h', Ext [] h h' → Q [.string ⟨(xs.map (·.data.toList)).flatten.toArray⟩] h') : S_strings_Join ⟨some ⟨b, 0, none⟩, n, n⟩ (ByteArray.mk #[]) h Q := by
  subst hn
  have hj : Lib.join (xs.map (·.data.toList)) [] = (xs.map (·.data.toList)).flatten := by
    unfold Lib.join
    generalize xs.map (·.data.toList) = l
    unfold List.intercalate
    induction l with
    | nil => rfl
    | cons a l ih =>
      cases l with
      | nil => rfl
      | cons c l => simpa [List.intersperse] using ih
  refine fn_below (B := h.size) Tryd.func45 (c := bodyOf Tryd.f45) (by kernel_rfl) (by kernel_rfl) (vs := [.string ⟨(xs.map (·.data.toList)).flatten.toArray⟩]) (fun w hw => ?_) fun h' e => hQ h' e.ext
  have := Tryd.strings_Join b 0 xs.length xs (ByteArray.mk #[]) w (fun j x hx => ?_) (by rw [hw]; exact blk_lt hb) (by omega) (Nat.le_refl _) (by show (Lib.join (xs.map (·.data.toList)) []).length ≤ _; omega)
  · refine this.mono fun e w' ⟨he, hbl⟩ => ⟨?_, by rw [hw] at hbl; exact hbl⟩
    rw [he]
    show Ending.returned (.string ⟨(Lib.join (xs.map (·.data.toList)) []).toArray⟩) = _
    rw [hj]
    rfl
  · rw [Nat.zero_add]
    exact rd_cell hw hb (by simp [hx])
theorem IndexByte_s (s : ByteArray) (hQ : Q [.int .i64 (Lib.indexByte s.data.toList 0)] h) : S_strings_IndexByte s 0 h Q := by
  refine fn_of_calls Tryd.func65 (c := bodyOf Tryd.f65) (by kernel_rfl) (by kernel_rfl) fun w hw => ?_
  refine (Tryd.strings_IndexByte s 0 w).mono fun e w' ⟨he, hwe⟩ => ⟨[.int .i64 (Lib.indexByte s.data.toList 0)], ?_, ?_, ?_⟩
  · rw [he]; rfl
  · rw [hwe]; exact Kept.refl _
  · rw [hwe, hw]; exact hQ
def BuH (h : Hp) (B b : Nat) (l : List UInt8) : Prop := ∀ w : World, w.heap = h → Lib.IsBuilder 92 5 B b (Lib.byteCells l) w
end
end Go.Lift

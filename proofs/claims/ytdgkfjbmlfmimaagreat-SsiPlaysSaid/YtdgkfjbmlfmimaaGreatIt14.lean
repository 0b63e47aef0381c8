/- What slices.AppendSeq(nil, maps.Keys(m)) comes to at pairs. -/
import Derived.Test.YtdgkfjbmlfmimaaGreatLf15
import Derived.Test.YtdgkfjbmlfmimaaGreatItB
set_option linter.unusedSimpArgs false
set_option linter.unusedVariables false
namespace Go.Lift
open Go Go.Proofs
set_option maxRecDepth 100000
def F_ikP (l : Nat) (Y : YT) (g1_x : Addr) (h : Hp) (Q : List Value → Hp → Prop) : Prop :=
∃ r1 : Option Nat, rd h g1_x = some (Value.map r1) ∧
∃ o2 : Obj, IterOf h r1 o2 ∧ wth (Array.push h o2) fun h3 =>
∀ X4 : List Value → Hp → Prop, (∀ h5 : Hp, ((Addr.off (Addr.mk (Array.size h) 0 none) = 0 ∧ ∃ o6 : Obj, h5[Addr.block (Addr.mk (Array.size h) 0 none)]? = some o6 ∧ IterGood h5 o6 ∧
      (IterEnd h5 o6 → Q [] h5) ∧
      ∀ (k7 v8 : Value) (o9 : Obj), IterStep h5 o6 k7 v8 o9 → wth (Array.setIfInBounds h5 (Addr.block (Addr.mk (Array.size h) 0 none)) o9) fun h10 =>
      (Addr.off (Addr.mk (Array.size h) 0 none) = 0 ∧ ∃ (m11 n12 : Nat) (q13 : Array Nat) (n14 : Nat) (es15 : Array MapEntry) (c16 : Nat) (e17 : MapEntry), h10[Addr.block (Addr.mk (Array.size h) 0 none)]? = some (.mapIter (some m11) n12 q13 c16) ∧ Array.back? q13 = some n14 ∧ h10[m11]? = some (.map es15 c16) ∧ Array.find? (fun x => x.born == n14) es15 = some e17 ∧ ∃ n18 : Int, ∃ n19 : Int, e17.key = (Value.agg #[(Value.int .i64 n18), (Value.int .i64 n19)]) ∧ ∃ v20 : Value, e17.val = v20 ∧ wth (Array.push h10 (Obj.cells #[(Value.int .i64 (0 : Int)), (Value.int .i64 (0 : Int))] T_2_int)) fun h21 =>
        stOk h21 (Addr.mk (Array.size h10) 0 none) 2 ∧ wth (wrs h21 (Addr.mk (Array.size h10) 0 none) 0 [(Value.int .i64 n18), (Value.int .i64 n19)]) fun h22 =>
        ∃ n23 : Int, rd h22 (Addr.add (Addr.mk (Array.size h10) 0 none) 0) = some (Value.int .i64 n23) ∧ ∃ n24 : Int, rd h22 (Addr.add (Addr.mk (Array.size h10) 0 none) 1) = some (Value.int .i64 n24) ∧ l = l ∧ Y (#[] ++ #[(Value.agg #[(Value.int .i64 n23), (Value.int .i64 n24)])]) h22 fun (b27 : Bool) (h26 : Hp) =>
        (if (!b27) = true then
          (Q [] h26) else
          (X4 [] h26))))) → X4 [] h5) →
X4 [] h3
theorem E_ikP (l : Nat) (Y : YT) (g1_x : Addr) (h : Hp) (Q : List Value → Hp → Prop) : cwY PP 14 (fun d => if d = 8 then [(.agg [(.int .i64), (.int .i64)]), (.c .any)] else []) (some (l, Y)) (bodyOf Tryz.f124) A_maps_Keys_map_2_int_int_2_int_int_1 (finQ PP (Tryz.f124.results.toList) Q) (argFr [(Value.func (.yield l) #[] #[]), (Value.pointer (some g1_x))]) h = F_ikP l Y g1_x h Q := by kernel_rfl
theorem O_ikP {l : Nat} {Y : YT} (hy : YOk PP l Y) (g1_x : Addr) {h : Hp} {Q : List Value → Hp → Prop} (H : F_ikP l Y g1_x h Q) : CallsH PP 124 #[(Value.func (.yield l) #[] #[]), (Value.pointer (some g1_x))] h Q :=
  calls_of_cwY (hs := (fun d => if d = 8 then [(.agg [(.int .i64), (.int .i64)]), (.c .any)] else [])) (ann := A_maps_Keys_map_2_int_int_2_int_int_1) (args := [(Value.func (.yield l) #[] #[]), (Value.pointer (some g1_x))]) hy Tryz.func124 (c := bodyOf Tryz.f124) (by kernel_rfl) (by kernel_rfl) (Eq.mpr (E_ikP l Y g1_x h Q) H)
def rho_asP (h : Hp) (sv : Value) : Fr := (upd 13 (upd 13 (upd 13 (argFr [(Value.slice none 0 0), sv]) (some 2) (some (Value.pointer (some (Addr.mk (Array.size h) 0 none))))) (some 4) (some (Value.slice none 0 0))) (some 6) (some sv))
def R_asP (L : Loop) (l bs : Nat) (c0 : Int) (c1 : Int) (h : Hp) (K : Bool → Hp → Prop) : Prop :=
  h[l]? = some (.loop L) ∧ wth (Array.push h (Obj.cells #[(Value.int .i64 (0 : Int)), (Value.int .i64 (0 : Int))] 51)) fun h1 => stOk h1 (Addr.mk (Array.size h) 0 none) 2 ∧ wth (wrs h1 (Addr.mk (Array.size h) 0 none) 0 [(Value.int .i64 c0), (Value.int .i64 c1)]) fun h2 =>
  h2[l]? = some (.loop L) ∧ wth (Array.setIfInBounds h2 l (.loop { L with state := .busy })) fun h3 =>
  ∃ s : Sl, rd h3 (Addr.mk bs 0 none) = some (Value.slice s.a s.n s.c) ∧ ∃ d0 : Int, rd h3 (Addr.add (Addr.mk (Array.size h) 0 none) 0) = some (Value.int .i64 d0) ∧ ∃ d1 : Int, rd h3 (Addr.add (Addr.mk (Array.size h) 0 none) 1) = some (Value.int .i64 d1) ∧ wth (Array.push h3 (Obj.cells #[(Value.int .i64 d0), (Value.int .i64 d1)] 51)) fun h4 =>
  ∃ cs : List Value, cellsAt h4 (some (Addr.mk (Array.size h3) 0 none)) (1 * 2) cs ∧ appS PP 51 16 2 h4 ⟨s.a, s.n, s.c⟩ 1 cs fun (l5 : Sl) (h5 : Hp) =>
  stOk h5 (Addr.mk bs 0 none) 1 ∧ wth (wrs h5 (Addr.mk bs 0 none) 0 [(Value.slice l5.a l5.n l5.c)]) fun h6 =>
  h6[l]? = some (.loop { L with state := .busy }) ∧ K true (Array.setIfInBounds h6 l (.loop L))
theorem O_asP {L : Loop} {l : Nat} {c0 : Int} {c1 : Int} {h0 h : Hp} {sv : Value} {K : Bool → Hp → Prop} (H : R_asP L l h0.size c0 c1 h K) : rndY PP 13 (fun _ => []) (rho_asP h0 sv) 7 L l (cfS (bodyOf Tryz.f153)) (cfT (bodyOf Tryz.f153)) .nil .nil #[(Value.agg #[(Value.int .i64 c0), (Value.int .i64 c1)])] h K :=
  ⟨_, rfl, H.1, Eq.mpr (by kernel_rfl) H.2⟩
def F_asP (sv : Value) (h : Hp) (Q : List Value → Hp → Prop) : Prop :=
  wth (Array.push h (Obj.cells #[(Value.slice none 0 0)] 47)) fun h1 => ∃ f' first caps, some sv = some (Value.func (.func f') first caps) ∧ (∀ args w, (callFunc f' args).run PP w = .ok (.enter f' args) w) ∧
  ∀ L : Loop, YOk PP (h1.size + 1) (rndY PP 13 (fun _ => []) (rho_asP h sv) 7 L (h1.size + 1) (cfS (bodyOf Tryz.f153)) (cfT (bodyOf Tryz.f153)) .nil .nil) →
    CallsH PP f' ((first ++ #[.func (.yield (h1.size + 1)) #[] #[]]) ++ caps) ((h1.push (.deferred (some []))).push (.loop L)) fun _ h2 => h2[h1.size + 1]? = some (.loop L) ∧ wth (Array.setIfInBounds h2 (h1.size + 1) (.loop { L with state := .exhausted })) fun h3 =>
    ∃ s : Sl, rd h3 (Addr.mk (Array.size h) 0 none) = some (Value.slice s.a s.n s.c) ∧ h3[h1.size]? = some (.deferred (some [])) ∧ Q [(Value.slice s.a s.n s.c)] (Array.setIfInBounds h3 h1.size (.deferred none))
theorem O_asqP (f : Nat) (cb : Array Value) {h : Hp} {Q : List Value → Hp → Prop} (H : F_asP (Value.func (.func f) #[] cb) h Q) : CallsH PP 153 #[(Value.slice none 0 0), (Value.func (.func f) #[] cb)] h Q :=
  calls_of_rf (hs := fun _ => []) (A := cfA (bodyOf Tryz.f153)) (B := cfB (bodyOf Tryz.f153)) (C := cfC (bodyOf Tryz.f153)) (i := 0) (p := 7) (g := cfG (bodyOf Tryz.f153)) (asg := cfS (bodyOf Tryz.f153)) (body := cfT (bodyOf Tryz.f153)) (annA := .nil) (annB := .nil) (annR := .nil) (annS := .nil) (annC := .nil)
    (args := [(Value.slice none 0 0), (Value.func (.func f) #[] cb)]) Tryz.func153 (by kernel_rfl) (by kernel_rfl) (Eq.mpr (by kernel_rfl) H)
end Go.Lift

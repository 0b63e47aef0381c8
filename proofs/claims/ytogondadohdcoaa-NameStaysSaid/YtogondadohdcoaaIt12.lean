/- What slices.AppendSeq(nil, maps.Keys(m)) comes to at numbers. -/
import Derived.Test.YtogondadohdcoaaLf12
import Derived.Test.YtogondadohdcoaaItB
set_option linter.unusedSimpArgs false
set_option linter.unusedVariables false
namespace Go.Lift
open Go Go.Proofs
set_option maxRecDepth 100000
def F_ikI (l : Nat) (Y : YT) (g1_x : Addr) (h : Hp) (Q : List Value → Hp → Prop) : Prop :=
∃ r1 : Option Nat, rd h g1_x = some (Value.map r1) ∧
∃ o2 : Obj, IterOf h r1 o2 ∧ wth (Array.push h o2) fun h3 =>
∀ X4 : List Value → Hp → Prop, (∀ h5 : Hp, ((Addr.off (Addr.mk (Array.size h) 0 none) = 0 ∧ ∃ o6 : Obj, h5[Addr.block (Addr.mk (Array.size h) 0 none)]? = some o6 ∧ IterGood h5 o6 ∧
      (IterEnd h5 o6 → Q [] h5) ∧
      ∀ (k7 v8 : Value) (o9 : Obj), IterStep h5 o6 k7 v8 o9 → wth (Array.setIfInBounds h5 (Addr.block (Addr.mk (Array.size h) 0 none)) o9) fun h10 =>
      (Addr.off (Addr.mk (Array.size h) 0 none) = 0 ∧ ∃ (m11 n12 : Nat) (q13 : Array Nat) (n14 : Nat) (es15 : Array MapEntry) (c16 : Nat) (e17 : MapEntry), h10[Addr.block (Addr.mk (Array.size h) 0 none)]? = some (.mapIter (some m11) n12 q13 c16) ∧ Array.back? q13 = some n14 ∧ h10[m11]? = some (.map es15 c16) ∧ Array.find? (fun x => x.born == n14) es15 = some e17 ∧ ∃ n18 : Int, e17.key = (Value.int .i64 n18) ∧ ∃ v19 : Value, e17.val = v19 ∧ l = l ∧ Y (#[] ++ #[(Value.int .i64 n18)]) h10 fun (b22 : Bool) (h21 : Hp) =>
        (if (!b22) = true then
          (Q [] h21) else
          (X4 [] h21))))) → X4 [] h5) →
X4 [] h3
theorem E_ikI (l : Nat) (Y : YT) (g1_x : Addr) (h : Hp) (Q : List Value → Hp → Prop) : cwY PP 14 (fun d => if d = 8 then [(.c (.int .i64)), (.c .any)] else []) (some (l, Y)) (bodyOf Try.f47) A_maps_Keys_map_int_int_int_int_1 (finQ PP (Try.f47.results.toList) Q) (argFr [(Value.func (.yield l) #[] #[]), (Value.pointer (some g1_x))]) h = F_ikI l Y g1_x h Q := by kernel_rfl
theorem O_ikI {l : Nat} {Y : YT} (hy : YOk PP l Y) (g1_x : Addr) {h : Hp} {Q : List Value → Hp → Prop} (H : F_ikI l Y g1_x h Q) : CallsH PP 47 #[(Value.func (.yield l) #[] #[]), (Value.pointer (some g1_x))] h Q :=
  calls_of_cwY (hs := (fun d => if d = 8 then [(.c (.int .i64)), (.c .any)] else [])) (ann := A_maps_Keys_map_int_int_int_int_1) (args := [(Value.func (.yield l) #[] #[]), (Value.pointer (some g1_x))]) hy Try.func47 (c := bodyOf Try.f47) (by kernel_rfl) (by kernel_rfl) (Eq.mpr (E_ikI l Y g1_x h Q) H)
def rho_asI (h : Hp) (sv : Value) : Fr := (upd 13 (upd 13 (upd 13 (argFr [(Value.slice none 0 0), sv]) (some 2) (some (Value.pointer (some (Addr.mk (Array.size h) 0 none))))) (some 4) (some (Value.slice none 0 0))) (some 6) (some sv))
def R_asI (L : Loop) (l bs : Nat) (c0 : Int) (h : Hp) (K : Bool → Hp → Prop) : Prop :=
  h[l]? = some (.loop L) ∧ h[l]? = some (.loop L) ∧ wth (Array.setIfInBounds h l (.loop { L with state := .busy })) fun h3 =>
  ∃ s : Sl, rd h3 (Addr.mk bs 0 none) = some (Value.slice s.a s.n s.c) ∧ wth (Array.push h3 (Obj.cells #[(Value.int .i64 c0)] 3)) fun h4 =>
  ∃ cs : List Value, cellsAt h4 (some (Addr.mk (Array.size h3) 0 none)) (1 * 1) cs ∧ appS PP 3 8 1 h4 ⟨s.a, s.n, s.c⟩ 1 cs fun (l5 : Sl) (h5 : Hp) =>
  stOk h5 (Addr.mk bs 0 none) 1 ∧ wth (wrs h5 (Addr.mk bs 0 none) 0 [(Value.slice l5.a l5.n l5.c)]) fun h6 =>
  h6[l]? = some (.loop { L with state := .busy }) ∧ K true (Array.setIfInBounds h6 l (.loop L))
theorem O_asI {L : Loop} {l : Nat} {c0 : Int} {h0 h : Hp} {sv : Value} {K : Bool → Hp → Prop} (H : R_asI L l h0.size c0 h K) : rndY PP 13 (fun _ => []) (rho_asI h0 sv) 7 L l (cfS (bodyOf Try.f57)) (cfT (bodyOf Try.f57)) .nil .nil #[(Value.int .i64 c0)] h K :=
  ⟨_, rfl, H.1, Eq.mpr (by kernel_rfl) H.2⟩
def F_asI (sv : Value) (h : Hp) (Q : List Value → Hp → Prop) : Prop :=
  wth (Array.push h (Obj.cells #[(Value.slice none 0 0)] 34)) fun h1 => ∃ f' first caps, some sv = some (Value.func (.func f') first caps) ∧ (∀ args w, (callFunc f' args).run PP w = .ok (.enter f' args) w) ∧
  ∀ L : Loop, YOk PP (h1.size + 1) (rndY PP 13 (fun _ => []) (rho_asI h sv) 7 L (h1.size + 1) (cfS (bodyOf Try.f57)) (cfT (bodyOf Try.f57)) .nil .nil) →
    CallsH PP f' ((first ++ #[.func (.yield (h1.size + 1)) #[] #[]]) ++ caps) ((h1.push (.deferred (some []))).push (.loop L)) fun _ h2 => h2[h1.size + 1]? = some (.loop L) ∧ wth (Array.setIfInBounds h2 (h1.size + 1) (.loop { L with state := .exhausted })) fun h3 =>
    ∃ s : Sl, rd h3 (Addr.mk (Array.size h) 0 none) = some (Value.slice s.a s.n s.c) ∧ h3[h1.size]? = some (.deferred (some [])) ∧ Q [(Value.slice s.a s.n s.c)] (Array.setIfInBounds h3 h1.size (.deferred none))
theorem O_asqI (f : Nat) (cb : Array Value) {h : Hp} {Q : List Value → Hp → Prop} (H : F_asI (Value.func (.func f) #[] cb) h Q) : CallsH PP 57 #[(Value.slice none 0 0), (Value.func (.func f) #[] cb)] h Q :=
  calls_of_rf (hs := fun _ => []) (A := cfA (bodyOf Try.f57)) (B := cfB (bodyOf Try.f57)) (C := cfC (bodyOf Try.f57)) (i := 0) (p := 7) (g := cfG (bodyOf Try.f57)) (asg := cfS (bodyOf Try.f57)) (body := cfT (bodyOf Try.f57)) (annA := .nil) (annB := .nil) (annR := .nil) (annS := .nil) (annC := .nil)
    (args := [(Value.slice none 0 0), (Value.func (.func f) #[] cb)]) Try.func57 (by kernel_rfl) (by kernel_rfl) (Eq.mpr (by kernel_rfl) H)
end Go.Lift

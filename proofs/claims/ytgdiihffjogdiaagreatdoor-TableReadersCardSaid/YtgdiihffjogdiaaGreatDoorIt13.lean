/- What slices.AppendSeq(nil, maps.Keys(m)) comes to at things. -/
import Derived.Test.YtgdiihffjogdiaaGreatDoorLf
import Derived.Test.YtgdiihffjogdiaaGreatDoorItB
set_option linter.unusedSimpArgs false
set_option linter.unusedVariables false
namespace Go.Lift
open Go Go.Proofs
set_option maxRecDepth 100000
def A_maps_Keys_map_siread_Thing_int_siread_Thing_int_1 : Ann := (.mk none ⟨[], []⟩ .nil (.mk none ⟨[], []⟩ (.mk none ⟨[0, 5], []⟩ .nil .nil) .nil))
def F_ikT (l : Nat) (Y : YT) (g1_x : Addr) (h : Hp) (Q : List Value → Hp → Prop) : Prop :=
∃ r1 : Option Nat, rd h g1_x = some (Value.map r1) ∧
∃ o2 : Obj, IterOf h r1 o2 ∧ wth (Array.push h o2) fun h3 =>
∀ X4 : List Value → Hp → Prop, (∀ h5 : Hp, ((Addr.off (Addr.mk (Array.size h) 0 none) = 0 ∧ ∃ o6 : Obj, h5[Addr.block (Addr.mk (Array.size h) 0 none)]? = some o6 ∧ IterGood h5 o6 ∧
      (IterEnd h5 o6 → Q [] h5) ∧
      ∀ (k7 v8 : Value) (o9 : Obj), IterStep h5 o6 k7 v8 o9 → wth (Array.setIfInBounds h5 (Addr.block (Addr.mk (Array.size h) 0 none)) o9) fun h10 =>
      (Addr.off (Addr.mk (Array.size h) 0 none) = 0 ∧ ∃ (m11 n12 : Nat) (q13 : Array Nat) (n14 : Nat) (es15 : Array MapEntry) (c16 : Nat) (e17 : MapEntry), h10[Addr.block (Addr.mk (Array.size h) 0 none)]? = some (.mapIter (some m11) n12 q13 c16) ∧ Array.back? q13 = some n14 ∧ h10[m11]? = some (.map es15 c16) ∧ Array.find? (fun x => x.born == n14) es15 = some e17 ∧ ∃ n18 : Int, ∃ s19 : ByteArray, ∃ n20 : Int, ∃ s21 : ByteArray, ∃ n22 : Int, e17.key = (Value.agg #[(Value.int .i64 n18), (Value.string s19), (Value.int .i64 n20), (Value.string s21), (Value.int .i64 n22)]) ∧ ∃ v23 : Value, e17.val = v23 ∧ wth (Array.push h10 (Obj.cells #[(Value.int .i64 (0 : Int)), (Value.string (ByteArray.mk #[])), (Value.int .i64 (0 : Int)), (Value.string (ByteArray.mk #[])), (Value.int .i64 (0 : Int))] T_siread_Thing)) fun h24 =>
        stOk h24 (Addr.mk (Array.size h10) 0 none) 5 ∧ wth (wrs h24 (Addr.mk (Array.size h10) 0 none) 0 [(Value.int .i64 n18), (Value.string s19), (Value.int .i64 n20), (Value.string s21), (Value.int .i64 n22)]) fun h25 =>
        ∃ n26 : Int, rd h25 (Addr.add (Addr.mk (Array.size h10) 0 none) 0) = some (Value.int .i64 n26) ∧ ∃ s27 : ByteArray, rd h25 (Addr.add (Addr.mk (Array.size h10) 0 none) 1) = some (Value.string s27) ∧ ∃ n28 : Int, rd h25 (Addr.add (Addr.mk (Array.size h10) 0 none) 2) = some (Value.int .i64 n28) ∧ ∃ s29 : ByteArray, rd h25 (Addr.add (Addr.mk (Array.size h10) 0 none) 3) = some (Value.string s29) ∧ ∃ n30 : Int, rd h25 (Addr.add (Addr.mk (Array.size h10) 0 none) 4) = some (Value.int .i64 n30) ∧ l = l ∧ Y (#[] ++ #[(Value.agg #[(Value.int .i64 n26), (Value.string s27), (Value.int .i64 n28), (Value.string s29), (Value.int .i64 n30)])]) h25 fun (b33 : Bool) (h32 : Hp) =>
        (if (!b33) = true then
          (Q [] h32) else
          (X4 [] h32))))) → X4 [] h5) →
X4 [] h3
theorem E_ikT (l : Nat) (Y : YT) (g1_x : Addr) (h : Hp) (Q : List Value → Hp → Prop) : cwY PP 14 (fun d => if d = 8 then [(.agg [(.int .i64), .str, (.int .i64), .str, (.int .i64)]), (.c .any)] else []) (some (l, Y)) (bodyOf Tryz.f226) A_maps_Keys_map_siread_Thing_int_siread_Thing_int_1 (finQ PP (Tryz.f226.results.toList) Q) (argFr [(Value.func (.yield l) #[] #[]), (Value.pointer (some g1_x))]) h = F_ikT l Y g1_x h Q := by kernel_rfl
theorem O_ikT {l : Nat} {Y : YT} (hy : YOk PP l Y) (g1_x : Addr) {h : Hp} {Q : List Value → Hp → Prop} (H : F_ikT l Y g1_x h Q) : CallsH PP 226 #[(Value.func (.yield l) #[] #[]), (Value.pointer (some g1_x))] h Q :=
  calls_of_cwY (hs := (fun d => if d = 8 then [(.agg [(.int .i64), .str, (.int .i64), .str, (.int .i64)]), (.c .any)] else [])) (ann := A_maps_Keys_map_siread_Thing_int_siread_Thing_int_1) (args := [(Value.func (.yield l) #[] #[]), (Value.pointer (some g1_x))]) hy Tryz.func226 (c := bodyOf Tryz.f226) (by kernel_rfl) (by kernel_rfl) (Eq.mpr (E_ikT l Y g1_x h Q) H)
def rho_asT (h : Hp) (sv : Value) : Fr := (upd 13 (upd 13 (upd 13 (argFr [(Value.slice none 0 0), sv]) (some 2) (some (Value.pointer (some (Addr.mk (Array.size h) 0 none))))) (some 4) (some (Value.slice none 0 0))) (some 6) (some sv))
def R_asT (L : Loop) (l bs : Nat) (c0 : Int) (c1 : ByteArray) (c2 : Int) (c3 : ByteArray) (c4 : Int) (h : Hp) (K : Bool → Hp → Prop) : Prop :=
  h[l]? = some (.loop L) ∧ wth (Array.push h (Obj.cells #[(Value.int .i64 (0 : Int)), (Value.string (ByteArray.mk #[])), (Value.int .i64 (0 : Int)), (Value.string (ByteArray.mk #[])), (Value.int .i64 (0 : Int))] 46)) fun h1 => stOk h1 (Addr.mk (Array.size h) 0 none) 5 ∧ wth (wrs h1 (Addr.mk (Array.size h) 0 none) 0 [(Value.int .i64 c0), (Value.string c1), (Value.int .i64 c2), (Value.string c3), (Value.int .i64 c4)]) fun h2 =>
  h2[l]? = some (.loop L) ∧ wth (Array.setIfInBounds h2 l (.loop { L with state := .busy })) fun h3 =>
  ∃ s : Sl, rd h3 (Addr.mk bs 0 none) = some (Value.slice s.a s.n s.c) ∧ ∃ d0 : Int, rd h3 (Addr.add (Addr.mk (Array.size h) 0 none) 0) = some (Value.int .i64 d0) ∧ ∃ d1 : ByteArray, rd h3 (Addr.add (Addr.mk (Array.size h) 0 none) 1) = some (Value.string d1) ∧ ∃ d2 : Int, rd h3 (Addr.add (Addr.mk (Array.size h) 0 none) 2) = some (Value.int .i64 d2) ∧ ∃ d3 : ByteArray, rd h3 (Addr.add (Addr.mk (Array.size h) 0 none) 3) = some (Value.string d3) ∧ ∃ d4 : Int, rd h3 (Addr.add (Addr.mk (Array.size h) 0 none) 4) = some (Value.int .i64 d4) ∧ wth (Array.push h3 (Obj.cells #[(Value.int .i64 d0), (Value.string d1), (Value.int .i64 d2), (Value.string d3), (Value.int .i64 d4)] 46)) fun h4 =>
  ∃ cs : List Value, cellsAt h4 (some (Addr.mk (Array.size h3) 0 none)) (1 * 5) cs ∧ appS PP 46 56 5 h4 ⟨s.a, s.n, s.c⟩ 1 cs fun (l5 : Sl) (h5 : Hp) =>
  stOk h5 (Addr.mk bs 0 none) 1 ∧ wth (wrs h5 (Addr.mk bs 0 none) 0 [(Value.slice l5.a l5.n l5.c)]) fun h6 =>
  h6[l]? = some (.loop { L with state := .busy }) ∧ K true (Array.setIfInBounds h6 l (.loop L))
theorem O_asT {L : Loop} {l : Nat} {c0 : Int} {c1 : ByteArray} {c2 : Int} {c3 : ByteArray} {c4 : Int} {h0 h : Hp} {sv : Value} {K : Bool → Hp → Prop} (H : R_asT L l h0.size c0 c1 c2 c3 c4 h K) : rndY PP 13 (fun _ => []) (rho_asT h0 sv) 7 L l (cfS (bodyOf Tryz.f243)) (cfT (bodyOf Tryz.f243)) .nil .nil #[(Value.agg #[(Value.int .i64 c0), (Value.string c1), (Value.int .i64 c2), (Value.string c3), (Value.int .i64 c4)])] h K :=
  ⟨_, rfl, H.1, Eq.mpr (by kernel_rfl) H.2⟩
def F_asT (sv : Value) (h : Hp) (Q : List Value → Hp → Prop) : Prop :=
  wth (Array.push h (Obj.cells #[(Value.slice none 0 0)] 246)) fun h1 => ∃ f' first caps, some sv = some (Value.func (.func f') first caps) ∧ (∀ args w, (callFunc f' args).run PP w = .ok (.enter f' args) w) ∧
  ∀ L : Loop, YOk PP (h1.size + 1) (rndY PP 13 (fun _ => []) (rho_asT h sv) 7 L (h1.size + 1) (cfS (bodyOf Tryz.f243)) (cfT (bodyOf Tryz.f243)) .nil .nil) →
    CallsH PP f' ((first ++ #[.func (.yield (h1.size + 1)) #[] #[]]) ++ caps) ((h1.push (.deferred (some []))).push (.loop L)) fun _ h2 => h2[h1.size + 1]? = some (.loop L) ∧ wth (Array.setIfInBounds h2 (h1.size + 1) (.loop { L with state := .exhausted })) fun h3 =>
    ∃ s : Sl, rd h3 (Addr.mk (Array.size h) 0 none) = some (Value.slice s.a s.n s.c) ∧ h3[h1.size]? = some (.deferred (some [])) ∧ Q [(Value.slice s.a s.n s.c)] (Array.setIfInBounds h3 h1.size (.deferred none))
theorem O_asqT (f : Nat) (cb : Array Value) {h : Hp} {Q : List Value → Hp → Prop} (H : F_asT (Value.func (.func f) #[] cb) h Q) : CallsH PP 243 #[(Value.slice none 0 0), (Value.func (.func f) #[] cb)] h Q :=
  calls_of_rf (hs := fun _ => []) (A := cfA (bodyOf Tryz.f243)) (B := cfB (bodyOf Tryz.f243)) (C := cfC (bodyOf Tryz.f243)) (i := 0) (p := 7) (g := cfG (bodyOf Tryz.f243)) (asg := cfS (bodyOf Tryz.f243)) (body := cfT (bodyOf Tryz.f243)) (annA := .nil) (annB := .nil) (annR := .nil) (annS := .nil) (annC := .nil)
    (args := [(Value.slice none 0 0), (Value.func (.func f) #[] cb)]) Tryz.func243 (by kernel_rfl) (by kernel_rfl) (Eq.mpr (by kernel_rfl) H)
end Go.Lift

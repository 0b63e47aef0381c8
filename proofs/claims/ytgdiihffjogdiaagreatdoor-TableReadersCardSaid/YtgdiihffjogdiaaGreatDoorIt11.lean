/- An index's entries, gone through: the iterator; the function that goes through it. -/
import Derived.Test.YtgdiihffjogdiaaGreatDoorLf
import Derived.Test.YtgdiihffjogdiaaGreatDoorItC
set_option linter.unusedSimpArgs false
set_option linter.unusedVariables false
namespace Go.Lift.X
open Go Go.Proofs
set_option maxRecDepth 100000
def A_index_entries_1 : Ann := (.mk none ⟨[], []⟩ .nil (.mk none ⟨[], []⟩ (.mk none ⟨[0, 8, 9], [(10, (.c (.int .i64)))]⟩ (.mk none ⟨[], []⟩ .nil (.mk none ⟨[], []⟩ .nil (.mk none ⟨[], []⟩ (.mk none ⟨[], []⟩ (.mk none ⟨[], []⟩ .nil (.mk none ⟨[], []⟩ .nil (.mk none ⟨[], []⟩ (.mk (some ⟨[0, 8, 9, 10], [(27, (.c .bool))]⟩) ⟨[], []⟩ .nil .nil) .nil))) .nil) .nil))) .nil) .nil))
def F_ikX (l : Nat) (Y : YT) (g1_x : Addr) (h : Hp) (Q : List Value → Hp → Prop) : Prop :=
∃ l1 : Sl, rd h g1_x = some (Value.slice l1.a l1.n l1.c) ∧
∀ X2 : List Value → Hp → Prop, (∀ n3 : Int, ∀ h4 : Hp, ((if (decide (n3 < (l1.n : Int))) = true then
      (nilW l1.a fun a5 => ixOk n3 l1.n (∃ s6 : ByteArray, rd h4 (Addr.add a5 (Int.toNat n3 * 1)) = some (Value.string s6) ∧
          S_key_Split s6 h4 fun (vs7 : List Value) (h8 : Hp) =>
          ∃ n9 : Int, ∃ n10 : Int, ∃ x11 : Nat, ∃ s12 : ByteArray, ∃ n13 : Int, ∃ n14 : Int, vs7 = [(Value.agg #[(Value.int .i64 n9), (Value.int .i64 n10), (Value.float .f64 x11), (Value.string s12)]), (Value.int .i64 n13), (Value.int .i64 n14)] ∧
          wth (Array.push h8 (Obj.cells #[(Value.int .i64 (0 : Int)), (Value.int .i64 (0 : Int)), (Value.float .f64 0), (Value.string (ByteArray.mk #[]))] T_api_Value)) fun h15 =>
          stOk h15 (Addr.mk (Array.size h8) 0 none) 4 ∧ wth (wrs h15 (Addr.mk (Array.size h8) 0 none) 0 [(Value.int .i64 n9), (Value.int .i64 n10), (Value.float .f64 x11), (Value.string s12)]) fun h16 =>
          ∀ J17 : List Value → Hp → Prop, (∀ b18 : Bool, ∀ h19 : Hp, ((if b18 = true then
                (Q [] h19) else
                (X2 [(Value.int .i64 (IntKind.wrap .i64 (n3 + (1 : Int))))] h19))) → J17 [(Value.bool b18)] h19) →
          (if (n14 == (0 : Int)) = true then (l = l ∧ Y (#[] ++ #[(Value.int .i64 n13)]) h16 fun (b22 : Bool) (h21 : Hp) =>
              J17 [(Value.bool (!b22))] h21) else
            (J17 [(Value.bool false)] h16)))) else
      (Q [] h4))) → X2 [(Value.int .i64 n3)] h4) →
X2 [(Value.int .i64 (0 : Int))] h
theorem E_ikX (l : Nat) (Y : YT) (g1_x : Addr) (h : Hp) (Q : List Value → Hp → Prop) : cwY PP 29 (fun _ => []) (some (l, Y)) (bodyOf Tryz.f199) A_index_entries_1 (finQ PP (Tryz.f199.results.toList) Q) (argFr [(Value.func (.yield l) #[] #[]), (Value.pointer (some g1_x))]) h = F_ikX l Y g1_x h Q := by kernel_rfl
theorem O_ikX {l : Nat} {Y : YT} (hy : YOk PP l Y) (g1_x : Addr) {h : Hp} {Q : List Value → Hp → Prop} (H : F_ikX l Y g1_x h Q) : CallsH PP 199 #[(Value.func (.yield l) #[] #[]), (Value.pointer (some g1_x))] h Q :=
  calls_of_cwY (hs := (fun _ => [])) (ann := A_index_entries_1) (args := [(Value.func (.yield l) #[] #[]), (Value.pointer (some g1_x))]) hy Tryz.func199 (c := bodyOf Tryz.f199) (by kernel_rfl) (by kernel_rfl) (Eq.mpr (E_ikX l Y g1_x h Q) H)
def rho_bt (h : Hp) (a b : Addr) (s1 s2 : ByteArray) (p : Option Addr) (l1 l2 : Sl) (f : Nat) (cs : Array Value) : Fr := (upd 29 (upd 29 (upd 29 (upd 29 (upd 29 (upd 29 (upd 29 (upd 29 (upd 29 (upd 29 (upd 29 (upd 29 (upd 29 (upd 29 (upd 29 (upd 29 (argFr [.pointer (some a), .string s1, .string s2]) (some 6) (some (.pointer (some (Addr.mk (Array.size h) 0 none))))) (some 7) (some (.slice none 0 0))) (some 11) (some (.pointer (some a)))) (some 12) (some (.pointer (some b)))) (some 13) (some (.pointer (some (Addr.add b 0))))) (some 14) (some (.pointer p))) (some 15) (some (.string s1))) (some 16) (some (.string s2))) (some 17) (some (packR [.slice l1.a l1.n l1.c, .slice l2.a l2.n l2.c]))) (some 10) (some (packR [.slice l1.a l1.n l1.c, .slice l2.a l2.n l2.c]))) (some 18) (some (.slice l1.a l1.n l1.c))) (some 19) (some (.slice l2.a l2.n l2.c))) (some 8) (some (.slice l1.a l1.n l1.c))) (some 7) (some (.slice l2.a l2.n l2.c))) (some 20) (some (.slice l1.a l1.n l1.c))) (some 21) (some (.func (.func f) #[] cs)))
def R_bt (L : Loop) (l bs : Nat) (t : Int) (h : Hp) (K : Bool → Hp → Prop) : Prop :=
  h[l]? = some (.loop L) ∧ h[l]? = some (.loop L) ∧ wth (Array.setIfInBounds h l (.loop { L with state := .busy })) fun h3 =>
  ∃ s : Sl, rd h3 (Addr.mk bs 0 none) = some (Value.slice s.a s.n s.c) ∧ wth (Array.push h3 (Obj.cells #[(Value.int .i64 t)] T_int)) fun h4 =>
  ∃ cs : List Value, cellsAt h4 (some (Addr.mk (Array.size h3) 0 none)) (1 * 1) cs ∧ appS PP T_int 8 1 h4 ⟨s.a, s.n, s.c⟩ 1 cs fun (l5 : Sl) (h5 : Hp) =>
  stOk h5 (Addr.mk bs 0 none) 1 ∧ wth (wrs h5 (Addr.mk bs 0 none) 0 [(Value.slice l5.a l5.n l5.c)]) fun h6 =>
  h6[l]? = some (.loop { L with state := .busy }) ∧ K true (Array.setIfInBounds h6 l (.loop L))
theorem O_rbt {L : Loop} {l : Nat} {t : Int} {h0 h : Hp} {a b : Addr} {s1 s2 : ByteArray} {p : Option Addr} {l1 l2 : Sl} {f : Nat} {cs : Array Value} {K : Bool → Hp → Prop} (H : R_bt L l h0.size t h K) : rndY PP 29 (fun _ => []) (rho_bt h0 a b s1 s2 p l1 l2 f cs) 22 L l (c2S (bodyOf Tryz.f127)) (c2T (bodyOf Tryz.f127)) .nil .nil #[(Value.int .i64 t)] h K :=
  ⟨_, rfl, H.1, Eq.mpr (by kernel_rfl) H.2⟩
def F_bt (a : Addr) (s1 s2 : ByteArray) (h : Hp) (Q : List Value → Hp → Prop) : Prop :=
  wth (Array.push h (Obj.cells #[(Value.slice none 0 0)] 56)) fun h1 => nilW (some a) fun b => ∃ p : Option Addr, rd h1 (Addr.add b 0) = some (.pointer p) ∧
  S_leaf_Leaves_Range p s1 s2 h1 fun (vs2 : List Value) (h3 : Hp) => ∃ l1 : Sl, ∃ l2 : Sl, vs2 = [(Value.slice l1.a l1.n l1.c), (Value.slice l2.a l2.n l2.c)] ∧
  S_index_entries ⟨l1.a, l1.n, l1.c⟩ h3 fun (vs4 : List Value) (h5 : Hp) => ∃ (f : Nat) (cs : Array Value), vs4 = [(Value.func (.func f) #[] cs)] ∧
  ∃ f' first caps, some (Value.func (.func f) #[] cs) = some (Value.func (.func f') first caps) ∧ (∀ args w, (callFunc f' args).run PP w = .ok (.enter f' args) w) ∧
  ∀ L : Loop, YOk PP (h5.size + 1) (rndY PP 29 (fun _ => []) (rho_bt h a b s1 s2 p l1 l2 f cs) 22 L (h5.size + 1) (c2S (bodyOf Tryz.f127)) (c2T (bodyOf Tryz.f127)) .nil .nil) →
    CallsH PP f' ((first ++ #[.func (.yield (h5.size + 1)) #[] #[]]) ++ caps) ((h5.push (.deferred (some []))).push (.loop L)) fun _ h6 => h6[h5.size + 1]? = some (.loop L) ∧ wth (Array.setIfInBounds h6 (h5.size + 1) (.loop { L with state := .exhausted })) fun h7 =>
    ∃ s : Sl, rd h7 (Addr.mk (Array.size h) 0 none) = some (Value.slice s.a s.n s.c) ∧ stOk h7 (Addr.mk (Array.size h) 0 none) 1 ∧ wth (wrs h7 (Addr.mk (Array.size h) 0 none) 0 [(Value.slice s.a s.n s.c)]) fun h8 =>
    h8[h5.size]? = some (.deferred (some [])) ∧ wth (Array.setIfInBounds h8 h5.size (.deferred none)) fun h9 => ∃ s2 : Sl, rd h9 (Addr.mk (Array.size h) 0 none) = some (Value.slice s2.a s2.n s2.c) ∧ Q [(Value.slice s2.a s2.n s2.c), (Value.slice l2.a l2.n l2.c)] h9
theorem O_bt (a : Addr) (s1 s2 : ByteArray) {h : Hp} {Q : List Value → Hp → Prop} (H : F_bt a s1 s2 h Q) : CallsH PP 127 #[(Value.pointer (some a)), (Value.string s1), (Value.string s2)] h Q :=
  calls_of_rf2 (hs := fun _ => []) (A := c2A (bodyOf Tryz.f127)) (D := c2D (bodyOf Tryz.f127)) (B := c2B (bodyOf Tryz.f127)) (C := c2C (bodyOf Tryz.f127)) (i := 0) (p := 22) (g := c2G (bodyOf Tryz.f127)) (asg := c2S (bodyOf Tryz.f127)) (body := c2T (bodyOf Tryz.f127)) (annA := .nil) (annD := .nil) (annB := .nil) (annR := .nil) (annS := .nil) (annC := .nil)
    (args := [(Value.pointer (some a)), (Value.string s1), (Value.string s2)]) Tryz.func127 (by kernel_rfl) (by kernel_rfl) (Eq.mpr (by kernel_rfl) H)
end Go.Lift.X

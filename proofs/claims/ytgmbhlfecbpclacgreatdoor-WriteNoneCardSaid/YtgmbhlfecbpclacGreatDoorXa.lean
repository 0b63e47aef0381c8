/- An evaluator for code over a small heap of its own, kernel-friendly. -/
import Derived.Test.YtgmbhlfecbpclacGreatDoorLvL
set_option linter.unusedSimpArgs false
set_option linter.unusedVariables false
namespace Go.Lift
open Go

inductive XV where
  | int (k : IntKind) (n : Int)
  | bool (b : Bool)
  | str (l : List Nat)
  | ptr (a : Option (Nat × Nat))
  | gl (g o : Nat)
  | sl (a : Option (Nat × Nat)) (n c : Nat) (ex : Bool)
  | slE (k : Nat)
  | map (r : Option Nat)
  | fn (i : Nat) (cs : List XV)
  | fnB (i : Nat) (fs cs : List XV)
  | nilFn
  | flt (k : FloatKind) (b : Nat)
  | agg (l : List XV)
  | tup (l : List XV)
  | undef
  | yld (k : Nat)
structure XE where
  key : XV
  val : XV
  born : Nat
inductive XO where
  | cells (l : List XV) (e : TypeId)
  | map (es : List XE) (clock : Nat)
  | iter (m : Option Nat) (since : Nat) (seen : List Nat) (last cur : Nat)
  | dead
abbrev XH := List XO
abbrev XF := List (Option XV)

noncomputable section
def nthX {α : Type} (l : List α) (n : Nat) : Option α :=
  List.rec (motive := fun _ => Nat → Option α) (fun _ => none) (fun x _ ih n => Nat.rec (motive := fun _ => Option α) (some x) (fun m _ => ih m) n) l n
def setK {α : Type} (y : α) (l : List α) (K : List α → Option (List α)) (n : Nat) : Option (List α) :=
  List.rec (motive := fun _ => (List α → Option (List α)) → Nat → Option (List α)) (fun _ _ => none) (fun x l ih K n => Nat.rec (motive := fun _ => Option (List α)) (K (y :: l)) (fun m _ => ih (fun r => K (x :: r)) m) n) l K n
def setX {α : Type} (l : List α) (n : Nat) (y : α) : Option (List α) := setK y l some n
def lenX {α : Type} (l : List α) (n : Nat) : Nat := List.rec (motive := fun _ => Nat → Nat) (fun n => n) (fun _ _ ih n => ih (Nat.succ n)) l n
/-- strict append -/
def appX {α β : Type} (l m : List α) (K : List α → β) : β := List.rec (motive := fun _ => (List α → β) → β) (fun K => K m) (fun x _ ih K => ih fun r => K (x :: r)) l K
def takeX {α : Type} : Nat → List α → Option (List α)
  | 0, _ => some []
  | _ + 1, [] => none
  | n + 1, x :: l => match takeX n l with | some r => some (x :: r) | none => none
def dropX {α : Type} : Nat → List α → Option (List α)
  | 0, l => some l
  | _ + 1, [] => none
  | n + 1, _ :: l => dropX n l
/-- as many of a list from a place on -/
def cutX {α : Type} (l : List α) (o n : Nat) : Option (List α) := match dropX o l with | some r => takeX n r | none => none
/-- a list written over another one from a place on -/
def overX {α : Type} : List α → Nat → List α → Option (List α)
  | l, _, [] => some l
  | [], _, _ :: _ => none
  | _ :: l, 0, y :: ys => match overX l 0 ys with | some r => some (y :: r) | none => none
  | x :: l, o + 1, y :: ys => match overX l o (y :: ys) with | some r => some (x :: r) | none => none
def repX {α : Type} (x : α) : Nat → List α → List α
  | 0, l => l
  | n + 1, l => repX x n (x :: l)
def mapO {α β : Type} (f : α → Option β) : List α → Option (List β)
  | [] => some []
  | x :: l => match f x, mapO f l with | some y, some r => some (y :: r) | _, _ => none

def fN {α : Type} (m : Nat) (K : Nat → α) : α := match m with | 0 => K 0 | p + 1 => K (Nat.succ p)
def fI {α : Type} (n : Int) (K : Int → α) : α := match n with | .ofNat m => fN m fun m => K (.ofNat m) | .negSucc m => fN m fun m => K (.negSucc m)
def fB {α : Type} (b : Bool) (K : Bool → α) : α := match b with | true => K true | false => K false
def iBeq : Int → Int → Bool
  | .ofNat m, .ofNat n => Nat.beq m n
  | .negSucc m, .negSucc n => Nat.beq m n
  | _, _ => false
def iLt : Int → Int → Bool
  | .ofNat m, .ofNat n => Nat.blt m n
  | .negSucc _, .ofNat _ => true
  | .ofNat _, .negSucc _ => false
  | .negSucc m, .negSucc n => Nat.blt n m
def kindN : IntKind → Nat | .i8 => 0 | .i16 => 1 | .i32 => 2 | .i64 => 3 | .u8 => 4 | .u16 => 5 | .u32 => 6 | .u64 => 7
def kBeq (a b : IntKind) : Bool := Nat.beq (kindN a) (kindN b)
def natO : Int → Option Nat | .ofNat m => some m | .negSucc _ => none

/-! constants -/
def ofS : Value → Option XV
  | .int k n => some (.int k n)
  | .bool b => some (.bool b)
  | .string s => some (.str (s.data.toList.map UInt8.toNat))
  | .pointer none => some (.ptr none)
  | .slice none 0 0 => some (.sl none 0 0 true)
  | .map none => some (.map none)
  | .nilFunc => some .nilFn
  | .float k b => some (.flt k b)
  | _ => none
def ofV : Value → Option XV
  | .agg cs => match mapO ofS cs.toList with | some l => some (.agg l) | none => none
  | v => ofS v
def cellsOfX : XV → List XV | .agg l => l | v => [v]
def oneX : XV → Bool | .agg _ => false | .tup _ => false | .undef => false | .yld _ => false | _ => true

def fkBeq : FloatKind → FloatKind → Bool | .f32, .f32 => true | .f64, .f64 => true | _, _ => false
def ctX : CT → XV → Bool
  | .int k, .int k' _ => kBeq k k'
  | .bool, .bool _ => true
  | .str, .str _ => true
  | .ptr, .ptr _ => true
  | .ptr, .gl _ _ => true
  | .sl, .sl _ _ _ _ => true
  | .sl, .slE _ => true
  | .map, .map _ => true
  | .fn, .fn _ _ => true
  | .flt k, .flt k' _ => fkBeq k k'
  | .any, _ => true
  | _, _ => false
def ctsX : List CT → List XV → Bool
  | [], [] => true
  | t :: ts, v :: vs => match ctX t v with | true => ctsX ts vs | false => false
  | _, _ => false
def tyX : Ty → XV → Bool
  | .c t, v => ctX t v
  | .agg ts, .agg vs => ctsX ts vs
  | _, _ => false
def tysX : List Ty → List XV → Bool
  | [], [] => true
  | t :: ts, v :: vs => match tyX t v with | true => tysX ts vs | false => false
  | _, _ => false

/-! operands -/
def evX (ρ : XF) : Operand → Option XV
  | .tmp t => match nthX ρ t with | some (some v) => some v | _ => none
  | .const v => ofV v
  | .global g => some (.gl g 0)
  | .func f => some (.fn f [])
def evsX (ρ : XF) : List Operand → Option (List XV) := mapO (evX ρ)
def evpX (ρ : XF) : List (Nat × Operand) → Option (List (Nat × XV)) := mapO fun p => match evX ρ p.2 with | some v => some (p.1, v) | none => none
def updX (ρ : XF) (d : Option Tmp) (r : Option XV) : Option XF := match d with | none => some ρ | some d => setX ρ d r

/-! cells -/
def cellsX (C : XH) (k o n : Nat) : Option (List XV) := match nthX C k with | some (.cells l _) => cutX l o n | _ => none
def ldX (P : Program) (t : TypeId) (a : XV) (C : XH) : Option XV :=
  match a with
  | .ptr (some (k, o)) => match lay P t with
    | some (.c ct) => match cellsX C k o 1 with
      | some [v] => match ctX ct v with | true => some v | false => none
      | _ => none
    | some (.agg ts) => match cellsX C k o (lenX ts 0) with
      | some vs => match ctsX ts vs with | true => some (.agg vs) | false => none
      | none => none
    | none => none
  | _ => none
def stcX (C : XH) (k o : Nat) (new : List XV) : Option XH :=
  match nthX C k with
  | some (.cells l e) => match overX l o new with
    | some l' => setX C k (.cells l' e)
    | none => none
  | _ => none
def stX (P : Program) (t : TypeId) (a v : XV) (C : XH) : Option XH :=
  match a, szOf P t with
  | .ptr (some (k, o)), some n => match Nat.beq (lenX (cellsOfX v) 0) n && (cellsOfX v).all oneX with
    | true => stcX C k o (cellsOfX v)
    | false => none
  | _, _ => none
def newX (C : XH) (o : XO) (K : Nat → XV) : Option (XV × XH) := appX C [o] fun C' => fN (lenX C 0) fun n => some (K n, C')
def zcX (P : Program) (t : TypeId) : Option (List XV) := match zeroOf P t with | some z => mapO ofS z.cells.toList | none => none
def repsX {α : Type} (z : List α) : Nat → List α → List α
  | 0, l => l
  | n + 1, l => appX z l fun l' => repsX z n l'

/-! operators -/
def mkI (k : IntKind) (n : Int) : Option XV := fI n fun n => some (.int k n)
def mkB (b : Bool) : Option XV := fB b fun b => some (.bool b)
def binIX (op : BinOp) (k : IntKind) (a b : Int) : Option XV :=
  match op with
  | .add => mkI k (k.wrap (a + b))
  | .sub => mkI k (k.wrap (a - b))
  | .mul => mkI k (k.wrap (a * b))
  | .quo => match iBeq b 0 with | false => mkI k (k.wrap (a.tdiv b)) | true => none
  | .rem => match iBeq b 0 with | false => mkI k (a.tmod b) | true => none
  | .and => mkI k (iAnd k a b)
  | .or => mkI k (iOr k a b)
  | .xor => mkI k (iXor k a b)
  | .andNot => mkI k (iAndNot k a b)
  | .eql => mkB (iBeq a b)
  | .neq => mkB (!iBeq a b)
  | .lss => mkB (iLt a b)
  | .leq => mkB (!iLt b a)
  | .gtr => mkB (iLt b a)
  | .geq => mkB (!iLt a b)
  | _ => none
def lBeq : List Nat → List Nat → Bool
  | [], [] => true
  | a :: l, b :: m => match Nat.beq a b with | true => lBeq l m | false => false
  | _, _ => false
def lLt : List Nat → List Nat → Bool
  | [], [] => false
  | [], _ :: _ => true
  | _ :: _, [] => false
  | a :: l, b :: m => match Nat.beq a b with | true => lLt l m | false => Nat.blt a b
def binSX (op : BinOp) (s t : List Nat) : Option XV :=
  match op with
  | .add => match Nat.ble (lenX s (lenX t 0)) (2 ^ 62) with | true => appX s t fun r => some (.str r) | false => none
  | .eql => mkB (lBeq s t)
  | .neq => mkB (!lBeq s t)
  | .lss => mkB (lLt s t)
  | .leq => mkB (!lLt t s)
  | .gtr => mkB (lLt t s)
  | .geq => mkB (!lLt s t)
  | _ => none
def binFX (op : BinOp) (k : FloatKind) (a b : Nat) : Option XV :=
  match op with
  | .eql => mkB (k.format.order a b == some .eq)
  | .neq => mkB (k.format.order a b != some .eq)
  | .lss => mkB (k.format.order a b == some .lt)
  | .gtr => mkB (k.format.order a b == some .gt)
  | _ => none
def keySX : XV → XV → Bool
  | .int _ a, .int _ b => iBeq a b
  | .str a, .str b => lBeq a b
  | .bool a, .bool b => a == b
  | _, _ => false
def likeSX : XV → XV → Bool
  | .int k _, .int k' _ => kBeq k k'
  | .str _, .str _ => true
  | .bool _, .bool _ => true
  | _, _ => false
def eqCX : List XV → List XV → Bool
  | [], [] => true
  | x :: xs, y :: ys => match keySX x y with | true => eqCX xs ys | false => false
  | _, _ => false
def likeCX : List XV → List XV → Bool
  | [], [] => true
  | x :: xs, y :: ys => match likeSX x y with | true => likeCX xs ys | false => false
  | _, _ => false
def kindX : TypeDesc → XV → Bool
  | .int _, .int _ _ => true
  | .string, .str _ => true
  | .bool, .bool _ => true
  | _, _ => false
def kindTX (P : Program) (t : TypeId) (v : XV) : Bool := match P.underlying t with | some d => kindX d v | none => false
def fitX (P : Program) : List Field → Nat → List XV → Bool
  | [], _, [] => true
  | f :: fs, i, v :: vs => match Nat.beq f.offset i && (f.name != "_") && kindTX P f.type v with | true => fitX P fs (i + 1) vs | false => false
  | _, _, _ => false
def flatX (P : Program) (t : TypeId) (cs : List XV) : Bool :=
  match P.underlying t with
  | some (.array n e) => Nat.beq (lenX cs 0) n && (match szOf P e with | some s => Nat.beq s 1 | none => false) && cs.all (kindTX P e)
  | some (.struct fs) => fitX P fs.toList 0 cs && !(P.stoodInHeld t)
  | _ => false
def aggX (P : Program) (t : TypeId) (xs ys : List XV) : Option Bool :=
  match P.underlying t with
  | some (.struct _) => match flatX P t xs && flatX P t ys && likeCX xs ys && !(P.eqGuardType P.depth t) with
    | true => some (eqCX xs ys)
    | false => none
  | _ => none
def kindOX : TypeDesc → XV → Bool
  | .pointer _, .ptr _ => true
  | .pointer _, .gl _ _ => true
  | .slice _, .sl _ _ _ _ => true
  | .slice _, .slE _ => true
  | .map _ _, .map _ => true
  | .func _ _ _, .fn _ _ => true
  | .func _ _ _, .nilFn => true
  | _, _ => false
def nilLX : XV → Bool
  | .ptr none => true
  | .sl none _ _ _ => true
  | .map none => true
  | .nilFn => true
  | _ => false
def eqlO (op : BinOp) (b : Bool) : Option XV := match op with | .eql => mkB b | .neq => mkB (!b) | _ => none
def isNilX : XV → Option Bool
  | .ptr p => some (match p with | none => true | some _ => false)
  | .gl _ _ => some false
  | .sl a _ _ _ => some (match a with | none => true | some _ => false)
  | .slE _ => some false
  | .map r => some (match r with | none => true | some _ => false)
  | .fn _ _ => some false
  | .nilFn => some true
  | _ => none
def binX (P : Program) (op : BinOp) (t : TypeId) (x y : XV) : Option XV :=
  match x, y with
  | .int k a, .int k' b =>
    match op with
    | .shl => match natO b with | some _ => mkI k (iShl k a b) | none => none
    | .shr => match natO b with | some _ => mkI k (iShr k a b) | none => none
    | op => match kBeq k k' with | true => binIX op k a b | false => none
  | .str s, .str u => binSX op s u
  | .flt k a, .flt k' b => match fkBeq k k' with | true => binFX op k a b | false => none
  | .bool a, .bool b => match P.underlying t with
    | some .bool => eqlO op (a == b)
    | _ => none
  | .agg xs, .agg ys => match aggX P t xs ys with | some b => eqlO op b | none => none
  | .ptr (some (j, o)), .ptr (some (k, u)) => match P.underlying t with
    | some (.pointer e) => match szNZ P e && Nat.beq j k with | true => eqlO op (Nat.beq o u) | false => none
    | _ => none
  | x, y => match P.underlying t with
    | some d => match kindOX d x && kindOX d y && nilLX y with
      | true => match isNilX x with | some b => eqlO op b | none => none
      | false => none
    | none => none
def unX (op : UnOp) (x : XV) : Option XV :=
  match op, x with
  | .not, .bool b => mkB (!b)
  | .neg, .int k n => mkI k (k.wrap (0 - n))
  | .xor, .int k n => mkI k (iXor k (if k.signed then -1 else k.max) n)
  | _, _ => none

/-! addresses -/
def nilX : XV → Option XV
  | .ptr (some a) => some (.ptr (some a))
  | .gl g o => some (.gl g o)
  | .fn i c => some (.fn i c)
  | _ => none
def fldX (P : Program) (t : TypeId) (a : XV) (f : Nat) : Option XV :=
  match P.underlying t with
  | some (.struct fs) => match fs[f]? with
    | some fd => match szOf P fd.type with
      | some (_ + 1) => match a with
        | .ptr (some (k, o)) => fN (o + fd.offset) fun u => some (.ptr (some (k, u)))
        | .gl g o => fN (o + fd.offset) fun u => some (.gl g u)
        | _ => none
      | _ => none
    | none => none
  | _ => none
def ixX (P : Program) (t : TypeId) (x i : XV) : Option XV :=
  match i with
  | .int _ i => match natO i with
    | some i => match P.underlying t, x with
      | some (.array len e), .ptr (some (k, o)) => match szOf P e, Nat.blt i len with
        | some s, true => fN (o + i * s) fun u => some (.ptr (some (k, u)))
        | _, _ => none
      | some (.array len e), .gl g o => match szOf P e, Nat.blt i len with
        | some s, true => fN (o + i * s) fun u => some (.gl g u)
        | _, _ => none
      | some (.slice e), .sl (some (k, o)) n _ _ => match szOf P e, Nat.blt i n with
        | some s, true => fN (o + i * s) fun u => some (.ptr (some (k, u)))
        | _, _ => none
      | _, _ => none
    | none => none
  | _ => none
def partX (P : Program) (t : TypeId) (cs : List XV) (off : Nat) : Option XV :=
  match P.underlying t with
  | some d => match isAggB d with
    | true => match szOf P t with
      | some n => (match cutX cs off n with | some l => some (.agg l) | none => none)
      | none => none
    | false => nthX cs off
  | none => none
def fieldX (P : Program) (t : TypeId) (x : XV) (f : Nat) : Option XV :=
  match P.underlying t, x with
  | some (.struct fs), .agg cs => match fs[f]? with
    | some fd => partX P fd.type cs fd.offset
    | none => none
  | _, _ => none
def indexX (P : Program) (t : TypeId) (x i : XV) : Option XV :=
  match i with
  | .int _ i => match natO i with
    | some i => match P.underlying t, x with
      | some (.array len e), .agg cs => match lay P e, szOf P e, Nat.blt i len with
        | some (.c ct), some s, true => match nthX cs (i * s) with
          | some v => match ctX ct v with | true => some v | false => none
          | none => none
        | _, _, _ => none
      | some .string, .str s => match nthX s i with | some b => some (.int .u8 (.ofNat b)) | none => none
      | _, _ => none
    | none => none
  | _ => none

/-! slices -/
def intO : Option XV → Option (Option Nat)
  | none => some none
  | some (.int _ i) => match natO i with | some n => some (some n) | none => none
  | some _ => none
def bdX (n c : Nat) (lo hi : Option Nat) : Option (Nat × Nat) :=
  match lo, hi with
  | none, none => some (0, n)
  | some l, none => match Nat.ble l n with | true => some (l, n) | false => none
  | none, some u => match Nat.ble u c with | true => some (0, u) | false => none
  | some l, some u => match Nat.ble l u && Nat.ble u c with | true => some (l, u) | false => none
/-- [l:u] of a slice with room c, at (k, o) -/
def slAdX (k o l u c sz : Nat) (ex : Bool) : Option XV :=
  match Nat.ble l u && Nat.ble u c with
  | true => match Nat.beq l c with
    | true => match ex with
      | true => some (.sl (some (k, o)) 0 0 true)
      | false => match l with
        | 0 => some (.sl (some (k, o)) 0 0 false)
        | _ + 1 => some (.slE k)
    | false => fN (o + l * sz) fun o' => fN (u - l) fun n' => fN (c - l) fun c' => some (.sl (some (k, o')) n' c' ex)
  | false => none
def slX (P : Program) (t : TypeId) (x : XV) (lo hi : Option XV) : Option XV :=
  match intO lo, intO hi with
  | some lo, some hi => match P.underlying t, x with
    | some .string, .str s => fN (lenX s 0) fun m => match bdX m m lo hi with
      | some (l, u) => match cutX s l (u - l) with | some r => some (.str r) | none => none
      | none => none
    | some (.slice e), .sl none _ _ _ => match szOf P e, bdX 0 0 lo hi with
      | some _, some _ => some (.sl none 0 0 true)
      | _, _ => none
    | some (.slice e), .sl (some (k, o)) n c ex => match szOf P e, bdX n c lo hi with
      | some sz, some (l, u) => slAdX k o l u c sz ex
      | _, _ => none
    | some (.array n e), .ptr (some (k, o)) => match szOf P e, bdX n n lo hi with
      | some sz, some (l, u) => slAdX k o l u n sz true
      | _, _ => none
    | _, _ => none
  | _, _ => none
def mkX (P : Program) (t : TypeId) (l c : XV) (C : XH) : Option (XV × XH) :=
  match P.underlying t, intO (some l), intO (some c) with
  | some (.slice e), some (some l), some (some c) => match P.info? e, zcX P e with
    | some i, some z => match Nat.ble l c && Nat.ble (c * i.bytes) (2 ^ 47) && Nat.ble c (2 ^ 47) with
      | true => match Nat.beq (lenX z 0) i.size && Nat.blt 0 i.size with
        | true => newX C (.cells (repsX z c []) e) fun k => .sl (some (k, 0)) l c true
        | false => none
      | false => none
    | _, _ => none
  | _, _, _ => none
/-- the cells of as many elements of a slice -/
def elX (C : XH) (x : XV) (sz m : Nat) : Option (List XV) :=
  match x with
  | .sl none _ _ _ => match m with | 0 => some [] | _ => none
  | .sl (some (k, o)) n _ _ => match Nat.ble m n with | true => cellsX C k o (m * sz) | false => none
  | .slE _ => match m with | 0 => some [] | _ => none
  | _ => none
def slenX : XV → Option Nat | .sl none _ _ _ => some 0 | .sl (some _) n _ _ => some n | .slE _ => some 0 | _ => none
def allOneX : List XV → Bool | [] => true | v :: l => match oneX v with | true => allOneX l | false => false
def appS_X (e : TypeId) (bytes sz : Nat) (C : XH) (s : XV) (m : Nat) (new : List XV) : Option (XV × XH) :=
  match s with
  | .sl a n c ex => match Nat.ble (n + m) (2 ^ 47) && Nat.ble ((n + m) * bytes) (2 ^ 47) && Nat.beq (lenX new 0) (m * sz) && allOneX new with
    | true => match a with
      | none => match m with
        | 0 => some (.sl none 0 0 true, C)
        | _ + 1 => newX C (.cells new e) fun k => .sl (some (k, 0)) m m false
      | some (k, o) => match Nat.ble (n + m) c with
        | true => match stcX C k (o + n * sz) new with
          | some C' => fN (n + m) fun n' => some (.sl (some (k, o)) n' c ex, C')
          | none => none
        | false => match cellsX C k o (n * sz) with
          | some old => match ex with
            | true => fN (n + m) fun n' => appX old new fun l => newX C (.cells l e) fun k' => .sl (some (k', 0)) n' n' false
            | false => match o, nthX C k with
              | 0, some (.cells l0 e0) => match Nat.beq (lenX l0 0) (n * sz) && Nat.beq n c && Nat.beq e0 e with
                | true => match setX C k .dead with
                  | some C' => fN (n + m) fun n' => appX old new fun l => newX C' (.cells l e) fun k' => .sl (some (k', 0)) n' n' false
                  | none => none
                | false => none
              | _, _ => none
          | none => none
    | false => none
  | _ => none
def strC (s : List Nat) : List XV := match s with | [] => [] | b :: l => .int .u8 (.ofNat b) :: strC l
def apX (P : Program) (t : TypeId) (s x : XV) (C : XH) : Option (XV × XH) :=
  match P.underlying t with
  | some (.slice e) => match P.info? e, zcX P e with
    | some i, some z => match Nat.beq (lenX z 0) i.size with
      | true => match x with
        | .str u => match Nat.beq i.size 1 with
          | true => appS_X e i.bytes i.size C s (lenX u 0) (strC u)
          | false => none
        | x => match slenX x with
          | some m => match elX C x i.size m with
            | some new => appS_X e i.bytes i.size C s m new
            | none => none
          | none => none
      | false => none
    | _, _ => none
  | _ => none

/-! building -/
def fillX (pl : Nat → Option (Nat × Nat)) : List XV → List (Nat × XV) → Option (List XV)
  | cs, [] => some cs
  | cs, (i, v) :: ps => match pl i with
    | some (o, n) => match Nat.beq (lenX (cellsOfX v) 0) n && Nat.ble (o + n) (lenX cs 0) with
      | true => match overX cs o (cellsOfX v) with | some cs' => fillX pl cs' ps | none => none
      | false => none
    | none => none
def placeX (P : Program) (fs : Array Field) (i : Nat) : Option (Nat × Nat) :=
  match fs[i]? with
  | some f => (match szOf P f.type with | some s => some (f.offset, s) | none => none)
  | none => none
def bldX (P : Program) (t : TypeId) (ps : List (Nat × XV)) : Option XV :=
  match zcX P t, P.underlying t with
  | some z, some (.struct fs) => match fs.toList.all fun f => (szOf P f.type).isSome with
    | true => (match fillX (placeX P fs) z ps with | some l => some (.agg l) | none => none)
    | false => none
  | some z, some (.array _ e) => match szOf P e with
    | some s => match fillX (fun i => some (i * s, s)) z ps with | some l => some (.agg l) | none => none
    | none => none
  | _, _ => none
def bsX (P : Program) (t : TypeId) (len : Nat) (ps : List (Nat × XV)) (C : XH) : Option (XV × XH) :=
  match P.underlying t with
  | some (.slice e) => match szOf P e, zcX P e with
    | some s, some z => match Nat.ble (len * s) (2 ^ 24) && Nat.beq (lenX z 0) s && Nat.blt 0 s, fillX (fun i => some (i * s, s)) (repsX z len []) ps with
      | true, some cs => newX C (.cells cs e) fun k => .sl (some (k, 0)) len len true
      | _, _ => none
    | _, _ => none
  | _ => none

/-! maps -/
def keyX : XV → XV → Bool
  | .agg a, .agg b => eqCX a b
  | a, b => keySX a b
def likeKX : XV → XV → Bool
  | .agg a, .agg b => likeCX a b
  | a, b => likeSX a b
def kindKX (P : Program) (t : TypeId) : XV → Bool
  | .agg a => flatX P t a
  | v => kindTX P t v
def allLike (k : XV) : List XE → Bool
  | [] => true
  | e :: es => match likeKX k e.key with | true => allLike k es | false => false
def mfindX (k : XV) : List XE → Nat → Option (Nat × XE)
  | [], _ => none
  | e :: es, i => match keyX k e.key with | true => some (i, e) | false => mfindX k es (Nat.succ i)
def mapAtX (C : XH) (r : Option Nat) : Option (List XE × Nat) :=
  match r with
  | none => some ([], 0)
  | some b => match nthX C b with | some (.map es clock) => some (es, clock) | _ => none
def zX (P : Program) (t : TypeId) : Option XV := match zeroOf P t with | some z => ofV z | none => none
def zTy (P : Program) (t : TypeId) : Option Ty := match zeroOf P t with | some z => some (tyOf z) | none => none
def fnTyX : Ty → XV → Bool
  | .c .fn, .nilFn => true
  | t, v => tyX t v
def lookX (P : Program) (t : TypeId) (m k : XV) (ok : Bool) (C : XH) : Option XV :=
  match P.underlying t, m with
  | some (.map kt et), .map r => match P.underlying kt, zX P et, zTy P et, mapAtX C r with
    | some _, some z, some ty, some (es, _) => match kindKX P kt k && allLike k es with
      | true => match mfindX k es 0 with
        | some (_, e) => match fnTyX ty e.val with
          | true => some (match ok with | true => .tup [e.val, .bool true] | false => e.val)
          | false => none
        | none => match fnTyX ty z with
          | true => some (match ok with | true => .tup [z, .bool false] | false => z)
          | false => none
      | false => none
    | _, _, _, _ => none
  | _, _ => none
def mputX (k v : XV) (es : List XE) (clock : Nat) : Option XO :=
  match mfindX k es 0 with
  | some (i, e) => match setX es i ⟨k, v, e.born⟩ with | some es' => some (.map es' clock) | none => none
  | none => appX es [⟨k, v, clock⟩] fun es' => fN (Nat.succ clock) fun c => some (.map es' c)
def eraseX {α : Type} : List α → Nat → Option (List α)
  | [], _ => none
  | _ :: l, 0 => some l
  | x :: l, n + 1 => match eraseX l n with | some r => some (x :: r) | none => none
def mdelX (k : XV) (es : List XE) (clock : Nat) : Option XO :=
  match mfindX k es 0 with
  | some (i, _) => match eraseX es i with | some es' => some (.map es' clock) | none => none
  | none => some (.map es clock)
def mupX (P : Program) (t : TypeId) (m k v : XV) (C : XH) : Option XH :=
  match P.underlying t, m with
  | some (.map kt _), .map (some b) => match P.underlying kt, mapAtX C (some b) with
    | some _, some (es, clock) => match kindKX P kt k && allLike k es with
      | true => match mputX k v es clock with | some o => setX C b o | none => none
      | false => none
    | _, _ => none
  | _, _ => none
def delX (P : Program) (t : TypeId) (m k : XV) (C : XH) : Option XH :=
  match P.underlying t, m with
  | some (.map kt _), .map (some b) => match P.underlying kt, mapAtX C (some b) with
    | some _, some (es, clock) => match kindKX P kt k && allLike k es with
      | true => match mdelX k es clock with | some o => setX C b o | none => none
      | false => none
    | _, _ => none
  | _, _ => none
def mentX (P : Program) (t : TypeId) (m k : XV) (C : XH) : Option (XV × XH) :=
  match P.underlying t, m with
  | some (.map kt et), .map (some b) => match P.underlying kt, mapAtX C (some b), zX P et, zTy P et with
    | some _, some (es, clock), some z, some ty => match kindKX P kt k && allLike k es with
      | true => match mfindX k es 0 with
        | some (i, e) => match tyX ty e.val, setX es i ⟨k, e.val, e.born⟩ with
          | true, some es' => match setX C b (.map es' clock) with
            | some C' => some (.tup [e.val, .int .i64 (.ofNat e.born)], C')
            | none => none
          | _, _ => none
        | none => match tyX ty z with
          | true => appX es [⟨k, z, clock⟩] fun es' => fN (Nat.succ clock) fun c => match setX C b (.map es' c) with
            | some C' => some (.tup [z, .int .i64 (.ofNat clock)], C')
            | none => none
          | false => none
      | false => none
    | _, _, _, _ => none
  | _, _ => none
def mstoL (v : XV) (n : Nat) : List XE → Option (List XE)
  | [] => none
  | e :: es => match Nat.beq e.born n with
    | true => some (⟨e.key, v, e.born⟩ :: es)
    | false => match mstoL v n es with | some r => some (e :: r) | none => none
def mstoX (m s v : XV) (C : XH) : Option XH :=
  match m, s with
  | .map (some b), .int _ n => match natO n, mapAtX C (some b) with
    | some n, some (es, clock) => match mstoL v n es with
      | some es' => setX C b (.map es' clock)
      | none => none
    | _, _ => none
  | _, _ => none

/-! small things -/
def lenOX (P : Program) (t : TypeId) (x : XV) (C : XH) : Option XV :=
  match P.underlying t, x with
  | some .string, .str s => fN (lenX s 0) fun n => some (.int .i64 (.ofNat n))
  | some (.slice _), .sl none _ _ _ => some (.int .i64 (.ofNat 0))
  | some (.slice _), .sl (some _) n _ _ => some (.int .i64 (.ofNat n))
  | some (.slice _), .slE _ => some (.int .i64 (.ofNat 0))
  | some (.array n _), _ => some (.int .i64 (.ofNat n))
  | some (.map _ _), .map r => match mapAtX C r with
    | some (es, _) => fN (lenX es 0) fun n => some (.int .i64 (.ofNat n))
    | none => none
  | _, _ => none
def capX (P : Program) (t : TypeId) (x : XV) : Option XV :=
  match P.underlying t, x with
  | some (.slice _), .sl none _ _ _ => some (.int .i64 (.ofNat 0))
  | some (.slice _), .sl (some _) _ c true => some (.int .i64 (.ofNat c))
  | _, _ => none
def bytesX : List XV → Option (List Nat)
  | [] => some []
  | .int .u8 (.ofNat b) :: l => match Nat.blt b 256, bytesX l with | true, some r => some (b :: r) | _, _ => none
  | _ => none
def cvX (P : Program) (s d : TypeId) (x : XV) (C : XH) : Option XV :=
  match P.underlying s, P.underlying d, x with
  | some _, some (.int k), .int _ n => mkI k (k.wrap n)
  | some _, some .string, .str s => some (.str s)
  | some (.slice e), some .string, x => match P.underlying e, slenX x with
    | some (.int .u8), some n => match elX C x 1 n with
      | some l => (match bytesX l with | some r => some (.str r) | none => none)
      | none => none
    | _, _ => none
  | _, _, _ => none
def minX (x y : XV) : Option XV := match x, y with | .int k a, .int _ b => (match iLt b a with | true => some (.int k b) | false => some (.int k a)) | _, _ => none
def maxX (x y : XV) : Option XV := match x, y with | .int k a, .int _ b => (match iLt a b with | true => some (.int k b) | false => some (.int k a)) | _, _ => none
def quBX (P : Program) (b : Builtin) (as : List XV) (ts : Array TypeId) (C : XH) : Option XV :=
  match b, as, ts[0]? with
  | .len, [x], some t => lenOX P t x C
  | .cap, [x], some t => capX P t x
  | .min, [x, y], _ => minX x y
  | .max, [x, y], _ => maxX x y
  | _, _, _ => none
def bnd {α β : Type} (x : Option α) (f : α → Option β) : Option β := match x with | some a => f a | none => none
def quX (P : Program) (o : Oper) (ρ : XF) (C : XH) : Option (Option XV) :=
  match o.op with
  | .move x => some (evX ρ x)
  | .assign x => some (evX ρ x)
  | .pick c a b => match evX ρ c with
    | some (.bool t) => (match t with | true => some (evX ρ a) | false => some (evX ρ b))
    | _ => none
  | .build t ps => bnd (evpX ρ ps.toList) fun vs => bnd (bldX P t vs) fun v => some (some v)
  | .load t a => bnd (evX ρ a) fun p => bnd (ldX P t p C) fun v => some (some v)
  | .nilCheck x => bnd (evX ρ x) fun p => bnd (nilX p) fun v => some (some v)
  | .binOp op t x y _ => bnd (evX ρ x) fun a => bnd (evX ρ y) fun b => bnd (binX P op t a b) fun v => some (some v)
  | .unOp op _ x => bnd (evX ρ x) fun a => bnd (unX op a) fun v => some (some v)
  | .convert s d x => bnd (evX ρ x) fun a => bnd (cvX P s d a C) fun v => some (some v)
  | .makeFunc (.func f) fs c => match fs.toList with
    | [] => bnd (evsX ρ c.toList) fun cv => some (some (.fn f cv))
    | fs => bnd (evsX ρ fs) fun fv => bnd (evsX ρ c.toList) fun cv => some (some (.fnB f fv cv))
  | .slice t x lo hi none => bnd (evX ρ x) fun v =>
      match lo, hi with
      | none, none => bnd (slX P t v none none) fun r => some (some r)
      | some l, none => bnd (evX ρ l) fun l => bnd (slX P t v (some l) none) fun r => some (some r)
      | none, some h => bnd (evX ρ h) fun h => bnd (slX P t v none (some h)) fun r => some (some r)
      | some l, some h => bnd (evX ρ l) fun l => bnd (evX ρ h) fun h => bnd (slX P t v (some l) (some h)) fun r => some (some r)
  | .fieldAddr t x f => bnd (evX ρ x) fun p => bnd (fldX P t p f) fun v => some (some v)
  | .field t x f => bnd (evX ρ x) fun p => bnd (fieldX P t p f) fun v => some (some v)
  | .indexAddr t x i => bnd (evX ρ x) fun a => bnd (evX ρ i) fun b => bnd (ixX P t a b) fun v => some (some v)
  | .index t x i => bnd (evX ρ x) fun a => bnd (evX ρ i) fun b => bnd (indexX P t a b) fun v => some (some v)
  | .lookup t m k ok => bnd (evX ρ m) fun a => bnd (evX ρ k) fun b => bnd (lookX P t a b ok C) fun v => some (some v)
  | .extract x i => bnd (evX ρ x) fun v => match v with | .tup l => bnd (nthX l i) fun u => some (some u) | _ => none
  | .call { callee := .builtin b, args, argTypes } => bnd (evsX ρ args.toList) fun as => bnd (quBX P b as argTypes C) fun v => some (some v)
  | _ => none

/-! loud ones -/
def rangeX (P : Program) (t : TypeId) (x : XV) (C : XH) : Option (XV × XH) :=
  match P.underlying t, x with
  | some (.map _ _), .map none => newX C (.iter none 0 [] 0 0) fun k => .ptr (some (k, 0))
  | some (.map _ _), .map (some m) => match nthX C m with
    | some (.map _ clock) => newX C (.iter (some m) clock [] clock 0) fun k => .ptr (some (k, 0))
    | _ => none
  | _, _ => none
def inX (n : Nat) : List Nat → Bool
  | [] => false
  | x :: l => match Nat.beq x n with | true => true | false => inX n l
def unseenX (seen : List Nat) : List XE → List XE
  | [] => []
  | e :: es => match inX e.born seen with | true => unseenX seen es | false => e :: unseenX seen es
def anyOldX (since : Nat) : List XE → Bool
  | [] => false
  | e :: es => match Nat.blt e.born since with | true => true | false => anyOldX since es
def allNewX (last : Nat) : List XE → Bool
  | [] => true
  | e :: es => match Nat.ble last e.born with | true => allNewX last es | false => false
def insX (n : Nat) : List Nat → List Nat
  | [] => [n]
  | x :: l => match Nat.blt n x with | true => n :: x :: l | false => x :: insX n l
/-- An iterator's steps: nothing is left, or one of the old entries comes. -/
def stepsX (C : XH) (k m since clock : Nat) (seen : List Nat) : List XE → Option (List (Option XV × XH))
  | [] => some []
  | e :: es => match Nat.blt e.born since, setX C k (.iter (some m) since (insX e.born seen) clock e.born), stepsX C k m since clock seen es with
    | true, some C', some r => some ((some (.tup [.bool true, e.key, e.val]), C') :: r)
    | _, _, _ => none
def nextX (C : XH) (a : XV) : Option (List (Option XV × XH)) :=
  match a with
  | .ptr (some (k, 0)) => match nthX C k with
    | some (.iter none _ _ _ _) => bnd (setX C k .dead) fun C' => some [(some (.tup [.bool false]), C')]
    | some (.iter (some m) since seen last _) => match nthX C m with
      | some (.map es clock) => match (match seen, es with | _ :: _, _ :: _ => !allNewX last es | _, _ => true) with
        | true => match unseenX seen es with
          | [] => bnd (setX C k .dead) fun C' => some [(some (.tup [.bool false]), C')]
          | e :: l => stepsX C k m since clock seen (e :: l)
        | false => none
      | _ => none
    | _ => none
  | _ => none
def findBorn (n : Nat) : List XE → Option XE
  | [] => none
  | e :: es => match Nat.beq e.born n with | true => some e | false => findBorn n es
def entryX (C : XH) (a : XV) : Option XV :=
  match a with
  | .ptr (some (k, 0)) => match nthX C k with
    | some (.iter (some m) _ (_ :: _) last cur) => match nthX C m with
      | some (.map es clk) => match Nat.beq last clk, findBorn cur es with
        | true, some e => some (.tup [e.key, e.val])
        | _, _ => none
      | _ => none
    | _ => none
  | _ => none
def clearX (P : Program) (t : TypeId) (s : XV) (C : XH) : Option XH :=
  match P.underlying t, s with
  | some (.slice e), .sl a n _ _ => match zcX P e with
    | some z => match allOneX z && Nat.blt 0 (lenX z 0), a with
      | true, some (k, o) => match n with
        | 0 => some C
        | n + 1 => stcX C k o (repsX z (Nat.succ n) [])
      | true, none => some C
      | false, _ => none
    | none => none
  | _, _ => none
def loBX (P : Program) (b : Builtin) (as : List XV) (ts : List TypeId) (C : XH) : Option (XV × XH) :=
  match b, as, ts with
  | .append, [s, x], [t, u] => match P.underlying u with
    | some (.int _) => none
    | some _ => apX P t s x C
    | none => none
  | .delete, [m, k], t :: _ => bnd (delX P t m k C) fun C' => some (.undef, C')
  | .clear, [s], t :: _ => bnd (clearX P t s C) fun C' => some (.undef, C')
  | _, _, _ => none
def packX : List XV → XV | [v] => v | vs => .tup vs
abbrev CallX := Nat → List XV → XH → Option (List (List XV × XH))
/-- Where code runs: as ever; in a round of a loop over a function; in an iterator, whose yield is given. -/
inductive XM where
  | plain
  | round
  | iter (k : Nat) (g : XV → XH → Option (List XH))
abbrev HookX := Nat → Option (List XV → XH → Option (List XV × XH))
/-- What comes of each, one behind the other. -/
def fmX {α β : Type} (f : α → Option (List β)) : List α → Option (List β)
  | [] => some []
  | x :: l => match f x with
    | some r => (match fmX f l with | some q => some (r ++ q) | none => none)
    | none => none
def louX (P : Program) (o : Oper) (ρ : XF) (C : XH) : Option (Option XV × XH) :=
  match o.op with
  | .alloc t => bnd (zcX P t) fun z => bnd (newX C (.cells z t) fun k => .ptr (some (k, 0))) fun r => some (some r.1, r.2)
  | .box t x => bnd (evX ρ x) fun v => bnd (newX C (.cells (cellsOfX v) t) fun k => .ptr (some (k, 0))) fun r => some (some r.1, r.2)
  | .buildSlice t n ps => bnd (evpX ρ ps.toList) fun vs => bnd (bsX P t n vs C) fun r => some (some r.1, r.2)
  | .store t a x => bnd (evX ρ a) fun p => bnd (evX ρ x) fun v => bnd (stX P t p v C) fun C' => some (none, C')
  | .makeMap t r => match P.underlying t, mkMapOk r with
    | some (.map _ _), true => bnd (newX C (.map [] 0) fun k => .map (some k)) fun r => some (some r.1, r.2)
    | _, _ => none
  | .makeSlice t l c => bnd (evX ρ l) fun lv => bnd (evX ρ c) fun cv => bnd (mkX P t lv cv C) fun r => some (some r.1, r.2)
  | .mapUpdate t m k x => bnd (evX ρ m) fun mv => bnd (evX ρ k) fun kv => bnd (evX ρ x) fun xv => bnd (mupX P t mv kv xv C) fun C' => some (none, C')
  | .insert t m k x => bnd (evX ρ m) fun mv => bnd (evX ρ k) fun kv => bnd (evX ρ x) fun xv => bnd (mupX P t mv kv xv C) fun C' => some (none, C')
  | .mapEntry t m k => bnd (evX ρ m) fun mv => bnd (evX ρ k) fun kv => bnd (mentX P t mv kv C) fun r => some (some r.1, r.2)
  | .entryStore _ m s x => bnd (evX ρ m) fun mv => bnd (evX ρ s) fun sv => bnd (evX ρ x) fun xv => bnd (mstoX mv sv xv C) fun C' => some (none, C')
  | .range t x => bnd (evX ρ x) fun v => bnd (rangeX P t v C) fun r => some (some r.1, r.2)
  | .entry it => bnd (evX ρ it) fun p => bnd (entryX C p) fun v => some (some v, C)
  | .call { callee := .builtin b, args, argTypes } => bnd (evsX ρ args.toList) fun as => bnd (loBX P b as argTypes.toList C) fun r => some (some r.1, r.2)
  | _ => none
def resX (P : Program) (t : TypeId) : List (List XV × XH) → Option (List (Option XV × XH))
  | [] => some []
  | r :: l => match tysX (resTys P t) r.1, resX P t l with
    | true, some q => some ((some (packX r.1), r.2) :: q)
    | _, _ => none
/-- A call of a function's value. -/
def fnvX (P : Program) (call : CallX) (y : XM) (fv : XV) (as : List XV) (t : TypeId) (C : XH) : Option (List (Option XV × XH)) :=
  match fv with
  | .fn i cs => appX as cs fun all => bnd (call i all C) fun r => resX P t r
  | .fnB i fs cs => appX fs as fun l => appX l cs fun all => bnd (call i all C) fun r => resX P t r
  | .yld j => match y, as with
    | .iter k g, [v] => (match Nat.beq j k with | true => bnd (g v C) fun l => some (l.map fun C' => (some (.bool true), C')) | false => none)
    | _, _ => none
  | _ => none
def opX (P : Program) (call : CallX) (y : XM) (o : Oper) (ρ : XF) (C : XH) : Option (List (Option XV × XH)) :=
  match isQuiet P o.op with
  | true => bnd (quX P o ρ C) fun r => some [(r, C)]
  | false => match o.op with
    | .next it false => bnd (evX ρ it) fun p => nextX C p
    | .call { callee := .value f, args, argTypes := _ } => bnd (evX ρ f) fun fv => bnd (evsX ρ args.toList) fun as => fnvX P call y fv as o.type C
    | _ => bnd (louX P o ρ C) fun r => some [r]
def updsX (ρ : XF) (d : Option Tmp) : List (Option XV × XH) → Option (List (XF × XH))
  | [] => some []
  | r :: l => match updX ρ d r.1, updsX ρ d l with
    | some ρ', some q => some ((ρ', r.2) :: q)
    | _, _ => none
/-- Under its guard: the frames behind it. -/
def stepX (P : Program) (call : CallX) (y : XM) (ops : Array Oper) (o : Oper) (ρ : XF) (C : XH) : Option (List (XF × XH)) :=
  match o.guard with
  | none => bnd (opX P call y o ρ C) fun r => updsX ρ o.dst r
  | some (j, want) => match gslot ops j with
    | some s => match nthX ρ s with
      | some (some (.bool b)) => match b == want with
        | true => bnd (opX P call y o ρ C) fun r => updsX ρ o.dst r
        | false => bnd (updX ρ o.dst (some .undef)) fun ρ' => some [(ρ', C)]
      | some (some .undef) => bnd (updX ρ o.dst (some .undef)) fun ρ' => some [(ρ', C)]
      | _ => none
    | none => none
def rX (P : Program) (call : CallX) (y : XM) (ops : Array Oper) : List Oper → XF → XH → Option (List (XF × XH))
  | [], ρ, C => some [(ρ, C)]
  | o :: os, ρ, C => match stepX P call y ops o ρ C with
    | some [(ρ', C')] => rX P call y ops os ρ' C'
    | some l => fmX (fun r => rX P call y ops os r.1 r.2) l
    | none => none

/-! equality -/
def oBeq : Option Nat → Option Nat → Bool | none, none => true | some a, some b => Nat.beq a b | _, _ => false
def aBeq : Option (Nat × Nat) → Option (Nat × Nat) → Bool | none, none => true | some (a, o), some (b, u) => Nat.beq a b && Nat.beq o u | _, _ => false
mutual
def eqV : XV → XV → Bool
  | .int k a, .int k' b => kBeq k k' && iBeq a b
  | .bool a, .bool b => a == b
  | .str a, .str b => lBeq a b
  | .ptr a, .ptr b => aBeq a b
  | .gl g o, .gl g' o' => Nat.beq g g' && Nat.beq o o'
  | .sl a n c e, .sl a' n' c' e' => aBeq a a' && Nat.beq n n' && Nat.beq c c' && (e == e')
  | .map r, .map r' => oBeq r r'
  | .fn i cs, .fn i' cs' => Nat.beq i i' && eqVs cs cs'
  | .flt k a, .flt k' a' => fkBeq k k' && Nat.beq a a'
  | .nilFn, .nilFn => true
  | .agg l, .agg l' => eqVs l l'
  | .tup l, .tup l' => eqVs l l'
  | .undef, .undef => true
  | .yld a, .yld b => Nat.beq a b
  | _, _ => false
def eqVs : List XV → List XV → Bool
  | [], [] => true
  | x :: xs, y :: ys => match eqV x y with | true => eqVs xs ys | false => false
  | _, _ => false
end
def eqE : List XE → List XE → Bool
  | [], [] => true
  | x :: xs, y :: ys => match eqV x.key y.key && eqV x.val y.val && Nat.beq x.born y.born with | true => eqE xs ys | false => false
  | _, _ => false
def eqO : XO → XO → Bool
  | .cells l e, .cells l' e' => Nat.beq e e' && eqVs l l'
  | .map es c, .map es' c' => Nat.beq c c' && eqE es es'
  | .iter m s n l c, .iter m' s' n' l' c' => oBeq m m' && Nat.beq s s' && lBeq n n' && Nat.beq l l' && Nat.beq c c'
  | .dead, .dead => true
  | _, _ => false
def eqH : XH → XH → Bool
  | [], [] => true
  | x :: xs, y :: ys => match eqO x y with | true => eqH xs ys | false => false
  | _, _ => false
def eqOV : Option XV → Option XV → Bool | none, none => true | some a, some b => eqV a b | _, _ => false
def eqF : XF → XF → Bool
  | [], [] => true
  | x :: xs, y :: ys => match eqOV x y with | true => eqF xs ys | false => false
  | _, _ => false

/-! a region whose order is open -/
abbrev XFacts := List (Nat × Oper × XF × Option XV)
def stepQX (P : Program) (ops : Array Oper) (o : Oper) (ρ : XF) (C : XH) : Option (XF × Option (Option XV)) :=
  match o.guard with
  | none => bnd (quX P o ρ C) fun r => bnd (updX ρ o.dst r) fun ρ' => some (ρ', some r)
  | some (j, want) => match gslot ops j with
    | some s => match nthX ρ s with
      | some (some (.bool b)) => match b == want with
        | true => bnd (quX P o ρ C) fun r => bnd (updX ρ o.dst r) fun ρ' => some (ρ', some r)
        | false => bnd (updX ρ o.dst (some .undef)) fun ρ' => some (ρ', none)
      | some (some .undef) => bnd (updX ρ o.dst (some .undef)) fun ρ' => some (ρ', none)
      | _ => none
    | none => none
def factOk (P : Program) : Op → Bool
  | .call { callee := .builtin .len, argTypes, .. } => match argTypes[0]? with
    | some t => (match P.underlying t with | some (.map _ _) => false | _ => true)
    | none => false
  | .convert s _ _ => match P.underlying s with | some (.slice _) => false | _ => true
  | _ => true
def factX (P : Program) (C : XH) : XFacts → Bool
  | [] => true
  | (_, o, ρ, r) :: fs => match factOk P o.op, quX P o ρ C with
    | true, some r' => match eqOV r r' with | true => factX P C fs | false => false
    | _, _ => false
def keepX (m : Nat) : XFacts → XFacts
  | [] => []
  | f :: fs => bif m.testBit f.1 then keepX m fs else f :: keepX m fs
/-! new blocks in an order of their own: what is met first stands first, what nobody can reach is given up -/
mutual
def idsV : XV → List Nat → List Nat
  | .ptr (some (k, _)), l => k :: l
  | .sl (some (k, _)) _ _ _, l => k :: l
  | .slE k, l => k :: l
  | .map (some k), l => k :: l
  | .fn _ cs, l => idsVs cs l
  | .fnB _ fs cs, l => idsVs fs (idsVs cs l)
  | .agg vs, l => idsVs vs l
  | .tup vs, l => idsVs vs l
  | .yld k, l => k :: l
  | _, l => l
def idsVs : List XV → List Nat → List Nat
  | [], l => l
  | v :: vs, l => idsV v (idsVs vs l)
end
def idsE : List XE → List Nat → List Nat
  | [], l => l
  | e :: es, l => idsV e.key (idsV e.val (idsE es l))
def idsO : XO → List Nat → List Nat
  | .cells vs _, l => idsVs vs l
  | .map es _, l => idsE es l
  | .iter (some m) _ _ _ _, l => m :: l
  | _, l => l
def idsOs : Nat → XH → List Nat → List Nat
  | n + 1, o :: C, l => idsO o (idsOs n C l)
  | _, _, l => l
def idsF : XF → List Nat → List Nat
  | [], l => l
  | some v :: ρ, l => idsV v (idsF ρ l)
  | none :: ρ, l => idsF ρ l
def ordX (n0 : Nat) (C : XH) : Nat → List Nat → List Nat → List Nat
  | 0, _, seen => seen
  | _ + 1, [], seen => seen
  | n + 1, k :: todo, seen => match Nat.blt k n0 || inX k seen with
    | true => ordX n0 C n todo seen
    | false => match nthX C k with
      | some o => ordX n0 C n (idsO o todo) (k :: seen)
      | none => ordX n0 C n todo seen
def posX (k : Nat) : List Nat → Nat → Option Nat
  | [], _ => none
  | j :: l, i => match Nat.beq j k with | true => some i | false => posX k l (Nat.succ i)
def sigX (n0 : Nat) (L : List Nat) (k : Nat) : Option Nat := match Nat.blt k n0 with | true => some k | false => posX k L n0
mutual
def renV (σ : Nat → Option Nat) : XV → Option XV
  | .ptr (some (k, o)) => match σ k with | some k' => fN k' fun k' => some (.ptr (some (k', o))) | none => none
  | .sl (some (k, o)) n c e => match σ k with | some k' => fN k' fun k' => some (.sl (some (k', o)) n c e) | none => none
  | .slE k => match σ k with | some k' => fN k' fun k' => some (.slE k') | none => none
  | .map (some k) => match σ k with | some k' => fN k' fun k' => some (.map (some k')) | none => none
  | .fn i cs => match renVs σ cs with | some l => some (.fn i l) | none => none
  | .fnB i fs cs => match renVs σ fs, renVs σ cs with | some k, some l => some (.fnB i k l) | _, _ => none
  | .agg vs => match renVs σ vs with | some l => some (.agg l) | none => none
  | .tup vs => match renVs σ vs with | some l => some (.tup l) | none => none
  | .yld k => match σ k with | some k' => fN k' fun k' => some (.yld k') | none => none
  | v => some v
def renVs (σ : Nat → Option Nat) : List XV → Option (List XV)
  | [] => some []
  | v :: l => match renV σ v, renVs σ l with | some v', some l' => some (v' :: l') | _, _ => none
end
def renE (σ : Nat → Option Nat) : List XE → Option (List XE)
  | [] => some []
  | e :: es => match renV σ e.key, renV σ e.val, renE σ es with | some k, some v, some l => some (⟨k, v, e.born⟩ :: l) | _, _, _ => none
def renO (σ : Nat → Option Nat) : XO → Option XO
  | .cells l e => match renVs σ l with | some l' => some (.cells l' e) | none => none
  | .map es c => match renE σ es with | some l => some (.map l c) | none => none
  | .iter (some m) s n l c => match σ m with | some m' => fN m' fun m' => some (.iter (some m') s n l c) | none => none
  | o => some o
def renF (σ : Nat → Option Nat) : XF → Option XF
  | [] => some []
  | none :: ρ => match renF σ ρ with | some r => some (none :: r) | none => none
  | some v :: ρ => match renV σ v, renF σ ρ with | some v', some r => some (some v' :: r) | _, _ => none
def renOs (σ : Nat → Option Nat) : Nat → XH → Option XH
  | n + 1, o :: C => match renO σ o, renOs σ n C with | some o', some r => some (o' :: r) | _, _ => none
  | 0, _ => some []
  | _ + 1, [] => none
def pickO (σ : Nat → Option Nat) (C : XH) : List Nat → Option XH
  | [] => some []
  | k :: l => match nthX C k with
    | some o => (match renO σ o, pickO σ C l with | some o', some r => some (o' :: r) | _, _ => none)
    | none => none
def goodL (n0 : Nat) : List Nat → Bool
  | [] => true
  | k :: l => match Nat.ble n0 k && !inX k l with | true => goodL n0 l | false => false
/-- the heap, with the blocks from n0 on as the list tells -/
def cmpH (n0 : Nat) (L : List Nat) (C : XH) : Option XH :=
  match goodL n0 L, renOs (sigX n0 L) n0 C, pickO (sigX n0 L) C L with
  | true, some a, some b => appX a b some
  | _, _, _ => none
def cmpR (n0 : Nat) (r : List XV × XH) : Option (List XV × XH) :=
  match ordX n0 r.2 100000 (idsVs r.1 (idsOs n0 r.2 [])) [] with
  | L => match renVs (sigX n0 L) r.1, cmpH n0 L r.2 with
    | some vs, some C => some (vs, C)
    | _, _ => none
def cmpS (n0 : Nat) (r : XF × XH) : Option (XF × XH) :=
  match ordX n0 r.2 100000 (idsF r.1 (idsOs n0 r.2 [])) [] with
  | L => match renF (sigX n0 L) r.1, cmpH n0 L r.2 with
    | some ρ, some C => some (ρ, C)
    | _, _ => none
def sameS (a b : XF × XH) : Bool := eqF a.1 b.1 && eqH a.2 b.2
/-- All of them come to one, but for the new blocks' numbers. -/
def allX (n0 : Nat) (f : Nat → Option (XF × XH)) : List Nat → Option (XF × XH)
  | [] => none
  | [i] => bnd (f i) (cmpS n0)
  | i :: is => match bnd (f i) (cmpS n0), allX n0 f is with
    | some a, some b => match sameS a b with | true => some a | false => none
    | _, _ => none
def oneX' (f : Nat → Option (XF × XH)) (n0 : Nat) : List Nat → Option (XF × XH)
  | [i] => f i
  | is => allX n0 f is
def dX (P : Program) (call : CallX) (y : XM) (ops : Array Oper) (ms : List Nat) : Nat → Array Bool → XF → XH → XFacts → Option (XF × XH)
  | 0, L, ρ, C, _ => match Region.ready .any ops L with | [] => some (ρ, C) | _ => none
  | m + 1, L, ρ, C, fs => match Region.ready .any ops L with
    | [] => some (ρ, C)
    | rs => match firstQ P ops L rs with
      | some i => match ops[i]? with
        | some o => match stepQX P ops o ρ C with
          | some (ρ', some r) => dX P call y ops ms m (L.setIfInBounds i true) ρ' C ((i, o, ρ, r) :: fs)
          | some (ρ', none) => dX P call y ops ms m (L.setIfInBounds i true) ρ' C fs
          | none => none
        | none => none
      | none => oneX' (fun i => match quietAt P ops i, ops[i]? with
        | false, some o => match stepX P call y ops o ρ C with
          | some [(ρ', C')] => match factX P C' (keepX (ms.getD i 0) fs) with
            | true => dX P call y ops ms m (L.setIfInBounds i true) ρ' C' (keepX (ms.getD i 0) fs)
            | false => none
          | _ => none
        | _, _ => none) (lenX C 0) rs

/-! code -/
def initX : List XV → Nat → Option XF
  | [], 0 => some []
  | [], n + 1 => match initX [] n with | some l => some (none :: l) | none => none
  | v :: vs, n + 1 => match initX vs n with | some l => some (some v :: l) | none => none
  | _ :: _, 0 => none
def retX (P : Program) (C : XH) (ρ : XF) : List ResultVar → Option (List XV)
  | [] => some []
  | .tmp t :: rs => match nthX ρ t, retX P C ρ rs with | some (some v), some vs => some (v :: vs) | _, _ => none
  | .cell a t :: rs => match nthX ρ a, retX P C ρ rs with
    | some (some p), some vs => match ldX P t p C with | some v => some (v :: vs) | none => none
    | _, _ => none
abbrev CodeX := XM → Code → XF → XH → Option (List (Ex × XF × XH))
def sameR : List XV × XH → List XV × XH → Bool := fun a b => eqVs a.1 b.1 && eqH a.2 b.2
def anyR (a : List XV × XH) : List (List XV × XH) → Bool
  | [] => false
  | b :: l => match sameR a b with | true => true | false => anyR a l
/-- each but once -/
def nubR : List (List XV × XH) → List (List XV × XH)
  | [] => []
  | a :: l => match anyR a l with | true => nubR l | false => a :: nubR l
def leaveX (P : Program) (rs : List ResultVar) : List (Ex × XF × XH) → Option (List (List XV × XH))
  | [] => some []
  | (.exit _, _, _) :: _ => none
  | (_, ρ, C) :: l => match retX P C ρ rs, leaveX P rs l with
    | some vs, some q => some ((vs, C) :: q)
    | _, _ => none
/-- go on where it went on -/
def thenX (f : XF → XH → Option (List (Ex × XF × XH))) : List (Ex × XF × XH) → Option (List (Ex × XF × XH))
  | [] => some []
  | [(.normal, ρ, C)] => f ρ C
  | (.normal, ρ, C) :: l => match f ρ C with
    | some r => (match thenX f l with | some q => some (r ++ q) | none => none)
    | none => none
  | x :: l => match thenX f l with | some q => some (x :: q) | none => none
def blkX (id : Nat) : List (Ex × XF × XH) → List (Ex × XF × XH)
  | [] => []
  | (.exit i, ρ, C) :: l => match Nat.beq i id with | true => (.normal, ρ, C) :: blkX id l | false => (.exit i, ρ, C) :: blkX id l
  | x :: l => x :: blkX id l
def nrmX : List (XF × XH) → List (Ex × XF × XH)
  | [] => []
  | r :: l => (.normal, r.1, r.2) :: nrmX l
/-- a round's heaps: all of them went on -/
def wentX : List (Ex × XF × XH) → Option (List XH)
  | [] => some []
  | (.normal, _, C) :: l => match wentX l with | some q => some (C :: q) | none => none
  | _ => none
/-- what is left of an iterator's run: the frame is the old one -/
def overR (ρ : XF) : List (Ex × XF × XH) → Option (List (Ex × XF × XH))
  | [] => some []
  | (.exit _, _, _) :: _ => none
  | (_, _, C) :: l => match overR ρ l with | some q => some ((.normal, ρ, C) :: q) | none => none
/-- a round -/
def roundX (ih : CodeX) (p : Tmp) (asg body : Code) (ρ : XF) : XV → XH → Option (List XH) := fun v C =>
  match setX ρ p (some v) with
  | some ρ1 => match ih .round asg ρ1 C with
    | some l => match thenX (ih .round body) l with
      | some q => wentX q
      | none => none
    | none => none
  | none => none
/-- The code around a range over a function, where that is a function's whole. -/
structure RfC where
  pre : List Code
  b : Code
  i : Nat
  g : Operand
  p : Tmp
  asg : Code
  body : Code
  c : Code
def rfP : Code → Option RfC
  | .seq (.seq b (.block i (.rangeFunc g ps asg body))) c => match ps.toList with | [p] => some ⟨[], b, i, g, p, asg, body, c⟩ | _ => none
  | .seq a r => match rfP r with | some q => some ⟨a :: q.pre, q.b, q.i, q.g, q.p, q.asg, q.body, q.c⟩ | none => none
  | _ => none
def preX (ih : CodeX) : List Code → XF → XH → Option (XF × XH)
  | [], ρ, C => some (ρ, C)
  | a :: l, ρ, C => match ih .plain a ρ C with
    | some [(.normal, ρ', C')] => preX ih l ρ' C'
    | _ => none
def bodyX (P : Program) (ih : CodeX) (fn : Func) (c : Code) (ρ : XF) (C : XH) : Option (List (List XV × XH)) :=
  match rfP c with
  | none => match ih .plain c ρ C with
    | some outs => leaveX P fn.results.toList outs
    | none => none
  | some q => match preX ih (q.pre ++ [q.b]) ρ C with
    | some (ρ2, C2) => match evX ρ2 q.g with
      | some (.fn f cs) => match P.funcs[f]? with
        | some gn => match gn.body, gn.results.toList with
          | some gc, [] => fN (lenX C2 0) fun k => appX C2 [.dead] fun C3 => match initX (.yld k :: cs) gn.ntmps with
            | some τ => match ih (.iter k (roundX ih q.p q.asg q.body ρ2)) gc τ C3 with
              | some l => match overR ρ2 l with
                | some l2 => match thenX (ih .round q.c) l2 with
                  | some outs => leaveX P fn.results.toList outs
                  | none => none
                | none => none
              | none => none
            | none => none
          | _, _ => none
        | none => none
      | _ => none
    | none => none
def callX (P : Program) (ext : HookX) (ih : CodeX) : CallX := fun f as C =>
  match ext f with
  | some g => bnd (g as C) fun r => some [r]
  | none => match P.funcs[f]? with
    | some fn => match fn.body with
      | some c => match initX as fn.ntmps with
        | some ρ => match bodyX P ih fn c ρ C with
          | some [r] => some [r]
          | some l => bnd (mapO (cmpR (lenX C 0)) l) fun q => some (nubR q)
          | none => none
        | none => none
      | none => none
    | none => none
def codeX (P : Program) (ext : HookX) (ih : CodeX) : CodeX := fun y c ρ C =>
  match c with
  | .skip => some [(.normal, ρ, C)]
  | .label _ => some [(.normal, ρ, C)]
  | .region _ ops d => match d with
    | false => match rX P (callX P ext ih) y ops ops.toList ρ C with | some l => some (nrmX l) | none => none
    | true => match Region.noSelect ops, y with
      | true, .plain => match dX P (callX P ext ih) .plain ops (ancM ops.toList []) ops.size (Array.replicate ops.size false) ρ C [] with | some (ρ', C') => some [(.normal, ρ', C')] | none => none
      | _, _ => none
  | .seq a b => match ih y a ρ C with
    | some l => thenX (ih y b) l
    | none => none
  | .cond c a b => match evX ρ c with
    | some (.bool t) => match t with | true => ih y a ρ C | false => ih y b ρ C
    | _ => none
  | .block id c => match ih y c ρ C with
    | some l => some (blkX id l)
    | none => none
  | .loop c => match ih y c ρ C with
    | some l => thenX (ih y (.loop c)) l
    | none => none
  | .scope c => match y with | .plain => ih y c ρ C | _ => none
  | .exit id => some [(.exit id, ρ, C)]
  | .ret => some [(.ret, ρ, C)]
  | _ => none
def exX (P : Program) (ext : HookX) : Nat → CodeX
  | 0 => fun _ _ _ _ => none
  | n + 1 => codeX P ext (exX P ext n)
def runX (P : Program) (ext : HookX) (n f : Nat) (as : List XV) (C : XH) : Option (List (List XV × XH)) := callX P ext (exX P ext n) f as C
end
end Go.Lift

/- Part 1 of the proof that 'DrawClear' holds. Conditions: as each part says. -/
import Derived.Below
import Derived.ChangeKeysEq
import Derived.Deep.AppendSrc
import Derived.Deep.MidRow
import Derived.Deep.Upon
import Derived.IntWalk
import Derived.Laws.Cells
import Derived.Laws.CopyRow
import Derived.Laws.Pointers
import Derived.Laws.StructEq
import GoSem.Step
set_option linter.unusedSimpArgs false
set_option linter.unusedVariables false
set_option linter.unusedSectionVars false
set_option linter.unnecessarySimpa false
section
/- An abstract machine for Go code: its data, its code, and how it runs. Plain definitions; no condition. -/
namespace Go.AM

/-- A finite map from numbers, as a tree of halves. -/
inductive Tr (α : Type) where
  | nil
  | nd (v : Option α) (l r : Tr α)

def Tr.get {α : Type} : Tr α → Nat → Option α
  | .nil, _ => none
  | .nd v l r, n => match n with
    | 0 => v
    | m + 1 => match Nat.mod m 2 with
      | 0 => l.get (Nat.div m 2)
      | _ + 1 => r.get (Nat.div m 2)

def Tr.setF {α : Type} : Nat → Tr α → Nat → α → Tr α
  | 0, t, _, _ => t
  | f + 1, .nil, n, a => match n with
    | 0 => .nd (some a) .nil .nil
    | m + 1 => match Nat.mod m 2 with
      | 0 => .nd none (Tr.setF f .nil (Nat.div m 2) a) .nil
      | _ + 1 => .nd none .nil (Tr.setF f .nil (Nat.div m 2) a)
  | f + 1, .nd v l r, n, a => match n with
    | 0 => .nd (some a) l r
    | m + 1 => match Nat.mod m 2 with
      | 0 => .nd v (Tr.setF f l (Nat.div m 2) a) r
      | _ + 1 => .nd v l (Tr.setF f r (Nat.div m 2) a)

def Tr.set {α : Type} (t : Tr α) (n : Nat) (a : α) : Tr α := Tr.setF (n + 1) t n a

/-- A digit. -/
inductive D where
  | d0 | d1 | d2 | d3 | d4 | d5 | d6 | d7
  deriving DecidableEq, Repr, Inhabited

/-- Eight of a kind. -/
inductive N8 (α : Type) where
  | n8 (x0 x1 x2 x3 x4 x5 x6 x7 : α)

def N8.get {α : Type} : N8 α → D → α
  | .n8 x0 x1 x2 x3 x4 x5 x6 x7, d => match d with
    | .d0 => x0 | .d1 => x1 | .d2 => x2 | .d3 => x3 | .d4 => x4 | .d5 => x5 | .d6 => x6 | .d7 => x7
def N8.set {α : Type} : N8 α → D → α → N8 α
  | .n8 x0 x1 x2 x3 x4 x5 x6 x7, d, y => match d with
    | .d0 => .n8 y x1 x2 x3 x4 x5 x6 x7 | .d1 => .n8 x0 y x2 x3 x4 x5 x6 x7 | .d2 => .n8 x0 x1 y x3 x4 x5 x6 x7 | .d3 => .n8 x0 x1 x2 y x4 x5 x6 x7
    | .d4 => .n8 x0 x1 x2 x3 y x5 x6 x7 | .d5 => .n8 x0 x1 x2 x3 x4 y x6 x7 | .d6 => .n8 x0 x1 x2 x3 x4 x5 y x7 | .d7 => .n8 x0 x1 x2 x3 x4 x5 x6 y
def N8.all {α : Type} (x : α) : N8 α := .n8 x x x x x x x x

/-- A slot: three digits. -/
inductive Sl where
  | s (a b c : D)
  deriving DecidableEq, Repr, Inhabited

def dg : Nat → D
  | 0 => .d0 | 1 => .d1 | 2 => .d2 | 3 => .d3 | 4 => .d4 | 5 => .d5 | 6 => .d6 | _ => .d7
def toSl (n : Nat) : Sl := .s (dg (n / 64 % 8)) (dg (n / 8 % 8)) (dg (n % 8))

/-- Values. -/
inductive AV where
  | b (b : Bool)
  | i (k : IntKind) (n : Int)
  | str (s : List UInt8)
  | nilp
  | ptr (id off : Nat)
  | nils
  /-- 'cap = none': what lies behind the slice's length is not known. 'es': cells an element. -/
  | sl (id off len : Nat) (cap : Option Nat) (es : Nat)
  | nilm
  | mp (id : Nat)
  | nilf
  | fn (f : Nat) (caps : List AV)
  | nili
  | ifc (t : Nat) (v : AV)
  | agg (l : List AV)
  | tup (l : List AV)
  deriving Inhabited

def und : AV := .tup []

def AV.flat : AV → List AV
  | .agg l => l
  | .tup _ => []
  | v => [v]

/-- Objects in memory. -/
inductive AO where
  | cells (rw : Bool) (vs : List AV)
  | map (es : List (AV × AV))
  | dead
  deriving Inhabited

structure AH where
  os : Tr AO
  n : Nat
  /-- The least number of an object that was written (or given up) since this mark was set anew. -/
  wm : Nat
  /-- Objects that may not be touched. -/
  hid : List (Nat × Nat)

def zca : List (Nat × Nat) → Nat → Bool
  | [], _ => false
  | (a, b) :: r, i => (Nat.ble a i && Nat.blt i b) || zca r i

def AH.get (h : AH) (i : Nat) : Option AO := bif zca h.hid i then none else h.os.get i
def AH.add (h : AH) (o : AO) : AH := { h with os := h.os.set h.n o, n := h.n + 1 }
def AH.put (h : AH) (i : Nat) (o : AO) : AH := { h with os := h.os.set i o, wm := bif Nat.ble h.wm i then h.wm else i }

/-- Operands. -/
inductive AX where
  | t (n : Sl)
  | c (v : AV)
  deriving Inhabited

/-- How two values are held against each other. -/
inductive EqT where
  | bool | int | str | slice | ptr | map | func
  /-- so many cells, all integers -/
  | ints (n : Nat)
  deriving Inhabited, Repr, DecidableEq

inductive AOp where
  | mv (x : AX)
  | pick (c a b : AX)
  | new (zero : List AV)
  | box (n : Nat) (x : AX)
  | build (zero : List AV) (parts : List (Nat × Nat × AX))
  | bsl (es len : Nat) (zero : List AV) (parts : List (Nat × Nat × AX))
  | ld (a : AX)
  | ldn (n : Nat) (a : AX)
  | st (n : Nat) (a x : AX)
  | nilck (x : AX)
  | bin (op : BinOp) (x y : AX)
  | eq (t : EqT) (neg : Bool) (x y : AX)
  | un (op : UnOp) (x : AX)
  | conv (k : IntKind) (x : AX)
  | mkf (f : Nat) (caps : List AX)
  | mkmap
  | mks (es bytes : Nat) (zero : List AV) (len cap : AX)
  | slice (es : Nat) (x : AX) (lo hi mx : Option AX)
  | flda (off : Nat) (x : AX)
  | fld (agg : Bool) (off size : Nat) (x : AX)
  | idxa (es : Nat) (x i : AX)
  | idxp (len es : Nat) (x i : AX)
  | idx (agg : Bool) (len es : Nat) (x i : AX)
  | idxs (x i : AX)
  | lookup (zero : AV) (ok : Bool) (kt : EqT) (m k : AX)
  | mapup (kt : EqT) (m k v : AX)
  | ext (x : AX) (i : Nat)
  | call (f : AX) (args : List AX)
  | app (es bytes : Nat) (s x : AX)
  | len (x : AX)
  | lens (x : AX)
  | lenm (x : AX)
  | min (l : List AX)
  | max (l : List AX)
  deriving Inhabited

/-- An operation: where its value goes, what it is, the operation and outcome that it waits for, and (in a region whose order is open) the operations that come ahead of it whatever the order. -/
structure AOper where
  dst : Option Sl
  op : AOp
  /-- the temporary that must hold this bool, else it is left out -/
  guard : Option (Sl × Bool)
  deriving Inhabited

inductive AC where
  | skip
  | reg (ops : List AOper)
  /-- with each operation its number, the numbers of those ahead of it whatever the order (as bits), and whether all others that touch memory are ahead of it or behind it -/
  | dreg (ops : List (Nat × AOper × Nat × Bool))
  | seq (a b : AC)
  | cond (c : AX) (a b : AC)
  | block (id : Nat) (b : AC)
  | loop (b : AC)
  | exit (id : Nat)
  | ret
  deriving Inhabited

inductive ARes where
  | t (n : Sl)
  | cell (a : Sl) (agg : Bool) (size : Nat)
  deriving Inhabited

structure AFunc where
  nargs : Nat
  res : List ARes
  body : AC
  deriving Inhabited

abbrev Tmps := N8 (N8 (N8 AV))
def noT : Tmps := N8.all (N8.all (N8.all und))
def tget (t : Tmps) : Sl → AV
  | .s a b c => ((t.get a).get b).get c
def tset (t : Tmps) : Sl → AV → Tmps
  | .s a b c, v => t.set a ((t.get a).set b (((t.get a).get b).set c v))
def AX.ev (t : Tmps) : AX → AV
  | .t n => tget t n
  | .c v => v
def evs (t : Tmps) : List AX → List AV
  | [] => []
  | x :: r => x.ev t :: evs t r

/-! Operations on data. -/

def kN : IntKind → Nat
  | .i8 => 0 | .i16 => 1 | .i32 => 2 | .i64 => 3 | .u8 => 4 | .u16 => 5 | .u32 => 6 | .u64 => 7
def kEq (a b : IntKind) : Bool := Nat.beq (kN a) (kN b)
def iEq : Int → Int → Bool
  | .ofNat a, .ofNat b => Nat.beq a b
  | .negSucc a, .negSucc b => Nat.beq a b
  | _, _ => false
def iLt : Int → Int → Bool
  | .ofNat a, .ofNat b => Nat.blt a b
  | .ofNat _, .negSucc _ => false
  | .negSucc _, .ofNat _ => true
  | .negSucc a, .negSucc b => Nat.blt b a
/-- 'k.wrap n', quickly where n is an int64 that fits. -/
def wrapQ (k : IntKind) (n : Int) : Int := match k with
  | .i64 => (match n with
    | .ofNat m => bif Nat.ble m 9223372036854775807 then n else IntKind.i64.wrap n
    | .negSucc m => bif Nat.ble m 9223372036854775807 then n else IntKind.i64.wrap n)
  | k => k.wrap n

def keq : AV → AV → Option Bool
  | .i k a, .i k' b => bif kEq k k' then some (iEq a b) else none
  | .str a, .str b => some (a == b)
  | .b a, .b b => some (a == b)
  | .agg a, .agg b => keqs a b
  | _, _ => none
  where keqs : List AV → List AV → Option Bool
  | [], [] => some true
  | .i k a :: r, .i k' b :: s => bif kEq k k' then (bif iEq a b then keqs r s else some false) else none
  | _, _ => none

/-- Where a key stands. -/
def mloc (k : AV) : List (AV × AV) → Nat → Option (Option Nat)
  | [], _ => some none
  | (k', _) :: r, i => match keq k k' with
    | some true => some (some i)
    | some false => mloc k r (i + 1)
    | none => none

def allInts : List AV → Bool
  | [] => true
  | .i _ _ :: r => allInts r
  | _ => false

/-- Is it a key of that kind? -/
def keyOk : EqT → AV → Bool
  | .int, .i _ _ => true
  | .str, .str _ => true
  | .bool, .b _ => true
  | .ints n, .agg l => Nat.beq l.length n && allInts l
  | _, _ => false

def takeN {α : Type} : Nat → List α → Option (List α)
  | 0, _ => some []
  | n + 1, x :: l => match takeN n l with | some r => some (x :: r) | none => none
  | _ + 1, [] => none

def dropN {α : Type} : Nat → List α → Option (List α)
  | 0, l => some l
  | n + 1, _ :: l => dropN n l
  | _ + 1, [] => none

/-- n cells from one on. -/
def cut {α : Type} (off n : Nat) (l : List α) : Option (List α) := match dropN off l with | some r => takeN n r | none => none

/-- Write cells from one on; none: there are not so many. -/
def splice {α : Type} : Nat → List α → List α → Option (List α)
  | 0, [], l => some l
  | 0, x :: xs, _ :: l => match splice 0 xs l with | some r => some (x :: r) | none => none
  | 0, _ :: _, [] => none
  | n + 1, xs, y :: l => match splice n xs l with | some r => some (y :: r) | none => none
  | _ + 1, _, [] => none

def fillA (cells : List AV) (t : Tmps) : List (Nat × Nat × AX) → Option (List AV)
  | [] => some cells
  | (off, size, x) :: r =>
    let l := (x.ev t).flat
    bif Nat.beq l.length size then
      match splice off l cells with
      | some c => fillA c t r
      | none => none
    else none

def intBin (op : BinOp) (k : IntKind) (x y : Int) : Option AV :=
  match op with
  | .add => some (.i k (wrapQ k (Int.add x y)))
  | .sub => some (.i k (wrapQ k (Int.sub x y)))
  | .mul => some (.i k (wrapQ k (Int.mul x y)))
  | .quo => bif iEq y 0 then none else some (.i k (k.wrap (x.tdiv y)))
  | .rem => bif iEq y 0 then none else some (.i k (x.tmod y))
  | .and => some (.i k (k.wrap (BitVec.ofInt k.bits x &&& BitVec.ofInt k.bits y).toNat))
  | .or => some (.i k (k.wrap (BitVec.ofInt k.bits x ||| BitVec.ofInt k.bits y).toNat))
  | .xor => some (.i k (k.wrap (BitVec.ofInt k.bits x ^^^ BitVec.ofInt k.bits y).toNat))
  | .andNot => some (.i k (k.wrap (BitVec.ofInt k.bits x &&& ~~~BitVec.ofInt k.bits y).toNat))
  | .eql => some (.b (iEq x y))
  | .neq => some (.b (!iEq x y))
  | .lss => some (.b (iLt x y))
  | .leq => some (.b (!iLt y x))
  | .gtr => some (.b (iLt y x))
  | .geq => some (.b (!iLt x y))
  | _ => none

def aBin (op : BinOp) : AV → AV → Option AV
  | .i k x, .i k' y => match op with
    | .shl => bif iLt y 0 then none else some (.i k (k.wrap (x * 2 ^ (Nat.min y.toNat k.bits))))
    | .shr => bif iLt y 0 then none else some (.i k (x.fdiv (2 ^ (Nat.min y.toNat k.bits))))
    | _ => bif kEq k k' then intBin op k x y else none
  | _, _ => none

def aEq : EqT → AV → AV → Option Bool
  | .bool, .b x, .b y => some (x == y)
  | .int, .i k x, .i k' y => bif kEq k k' then some (iEq x y) else none
  | .str, .str x, .str y => some (x == y)
  | .slice, .nils, .nils => some true
  | .slice, .nils, .sl .. => some false
  | .slice, .sl .., .nils => some false
  | .map, .nilm, .nilm => some true
  | .map, .nilm, .mp _ => some false
  | .map, .mp _, .nilm => some false
  | .func, .nilf, .nilf => some true
  | .func, .nilf, .fn .. => some false
  | .func, .fn .., .nilf => some false
  | .ptr, .nilp, .nilp => some true
  | .ptr, .nilp, .ptr .. => some false
  | .ptr, .ptr .., .nilp => some false
  | .ints n, .agg x, .agg y => bif Nat.beq x.length n && Nat.beq y.length n then keq.keqs x y else none
  | _, _, _ => none

def rep {α : Type} : Nat → List α → List α
  | 0, _ => []
  | n + 1, l => l ++ rep n l

/-- A bound that came in: a number from 0 to m. -/
def bound (m : Nat) : AV → Option Nat
  | .i _ (.ofNat n) => bif Nat.ble n m then some n else none
  | _ => none

def loOf (h : Nat) : Option AV → Option Nat
  | some v => bound h v
  | none => some 0
def hiOf (top len : Nat) (given : Bool) : Option AV → Option Nat
  | some v => bound top v
  | none => bif given then none else some len
def mxOf (top : Nat) : Option AV → Option Nat
  | some v => bound top v
  | none => some top

def aSliceK (id off len es k : Nat) (lo hi : Option AV) (given : Bool) : Option AV :=
  match hiOf k len given hi with
  | some h => match loOf h lo with
    | some l => some (.sl id (bif Nat.beq k l then off else off + l * es) (h - l) (some (k - l)) es)
    | none => none
  | none => none

def aSlice (es : Nat) (x : AV) (lo hi mx : Option AV) : Option AV :=
  match x with
  | .nils => match mxOf 0 mx with
    | some m => match hiOf m 0 mx.isSome hi with
      | some h => match loOf h lo with
        | some _ => some .nils
        | none => none
      | none => none
    | none => none
  | .sl id off len cap es' =>
    bif Nat.beq es es' then
      match cap with
      | some c => match mxOf c mx with
        | some k => aSliceK id off len es k lo hi mx.isSome
        | none => none
      | none => match mx with
        | some v => match bound len v with
          | some k => aSliceK id off len es k lo hi true
          | none => none
        | none => match hiOf len len false hi with
          | some h => match loOf h lo with
            | some l => some (.sl id (off + l * es) (h - l) none es)
            | none => none
          | none => none
    else none
  | _ => none

def foldInts (f : Int → Int → Int) : List AV → Option AV
  | [] => none
  | .i k x :: r => go k x r
  | _ => none
  where go (k : IntKind) (x : Int) : List AV → Option AV
  | [] => some (.i k x)
  | .i _ y :: r => go k (f x y) r
  | _ => none

/-! Running. -/

/-- What becomes of memory. -/
inductive HD where
  | same
  | add (o : AO)
  | put (i : Nat) (o : AO)
  /-- an object is given up, another one made -/
  | kadd (i : Nat) (o : AO)

def HD.on (h : AH) : HD → AH
  | .same => h
  | .add o => h.add o
  | .put i o => h.put i o
  | .kadd i o => (h.put i .dead).add o

/-- What lies in memory from a place on. -/
def loadN (h : AH) (n : Nat) : AV → Option (List AV)
  | .ptr id off => match h.get id with
    | some (.cells _ vs) => cut off n vs
    | _ => none
  | _ => none

/-- The elements of a slice. -/
def elems (h : AH) (es : Nat) : AV → Option (List AV)
  | .nils => some []
  | .sl id off len _ es' => bif Nat.beq es es' then
      (match h.get id with
      | some (.cells _ vs) => cut off (len * es) vs
      | _ => none)
    else none
  | _ => none

/-- Room that a new array may take. -/
def fits (n bytes : Nat) : Bool := Nat.ble (n * bytes) 140737488355328 && Nat.ble n 140737488355328

def aAppend (h : AH) (es bytes : Nat) (s x : AV) : Option (AV × HD) :=
  match elems h es x with
  | none => none
  | some new =>
    match s with
    | .nils => match x with
      | .sl _ _ n _ _ => match n with
        | 0 => some (.nils, .same)
        | _ => bif fits n bytes then some (.sl h.n 0 n none es, HD.add (.cells true new)) else none
      | _ => some (.nils, .same)
    | .sl id off len cap es' =>
      bif Nat.beq es es' then
        match x with
        | .sl _ _ n _ _ => match n with
          | 0 => some (s, .same)
          | _ => match h.get id with
            | some (.cells rw vs) =>
              match cap with
              | some c =>
                bif Nat.ble (len + n) c then
                  bif rw then
                    match splice (off + len * es) new vs with
                    | some vs' => some (.sl id off (len + n) cap es, HD.put id (.cells true vs'))
                    | none => none
                  else none
                else bif fits (len + n) bytes then
                  match cut off (len * es) vs with
                  | some old => some (.sl h.n 0 (len + n) none es, HD.add (.cells true (old ++ new)))
                  | none => none
                else none
              | none =>
                bif rw && fits (len + n) bytes then
                  match cut off (len * es) vs with
                  | some old => some (.sl h.n 0 (len + n) none es, HD.kadd id (.cells true (old ++ new)))
                  | none => none
                else none
            | _ => none
        | _ => some (s, .same)
      else none
    | _ => none

def op_mv (t : Tmps) (_h : AH) (x : AX) : Option (AV × HD) := some (x.ev t, .same)

def op_pick (t : Tmps) (_h : AH) (c : AX) (a : AX) (b : AX) : Option (AV × HD) := match c.ev t with
    | .b true => some (a.ev t, .same)
    | .b false => some (b.ev t, .same)
    | _ => none

def op_new (_t : Tmps) (h : AH) (zero : List AV) : Option (AV × HD) := some (.ptr h.n 0, HD.add (.cells true zero))

def op_box (t : Tmps) (h : AH) (n : Nat) (x : AX) : Option (AV × HD) :=
  bif Nat.beq (x.ev t).flat.length n then some (.ptr h.n 0, HD.add (.cells true (x.ev t).flat)) else none

def op_build (t : Tmps) (_h : AH) (zero : List AV) (parts : List (Nat × Nat × AX)) : Option (AV × HD) := match fillA zero t parts with | some c => some (.agg c, .same) | none => none

def op_bsl (t : Tmps) (h : AH) (es : Nat) (len : Nat) (zero : List AV) (parts : List (Nat × Nat × AX)) : Option (AV × HD) := match fillA zero t parts with | some c => some (.sl h.n 0 len (some len) es, HD.add (.cells true c)) | none => none

def op_ld (t : Tmps) (h : AH) (a : AX) : Option (AV × HD) := match loadN h 1 (a.ev t) with | some [v] => some (v, .same) | _ => none

def op_ldn (t : Tmps) (h : AH) (n : Nat) (a : AX) : Option (AV × HD) := match loadN h n (a.ev t) with | some l => some (.agg l, .same) | none => none

def op_st (t : Tmps) (h : AH) (n : Nat) (a : AX) (x : AX) : Option (AV × HD) := match a.ev t with
    | .ptr id off => match h.get id with
      | some (.cells true vs) =>
        let l := (x.ev t).flat
        bif Nat.beq l.length n then
          match splice off l vs with
          | some vs' => some (und, HD.put id (.cells true vs'))
          | none => none
        else none
      | _ => none
    | _ => none

def op_nilck (t : Tmps) (_h : AH) (x : AX) : Option (AV × HD) := match x.ev t with
    | .ptr id off => some (.ptr id off, .same)
    | .fn f c => some (.fn f c, .same)
    | _ => none

def op_bin (t : Tmps) (_h : AH) (op : BinOp) (x : AX) (y : AX) : Option (AV × HD) := match aBin op (x.ev t) (y.ev t) with | some v => some (v, .same) | none => none

def op_eq (t : Tmps) (_h : AH) (e : EqT) (neg : Bool) (x : AX) (y : AX) : Option (AV × HD) := match aEq e (x.ev t) (y.ev t) with | some r => some (.b (bif neg then !r else r), .same) | none => none

def op_un (t : Tmps) (_h : AH) (op : UnOp) (x : AX) : Option (AV × HD) := match op, x.ev t with
    | .not, .b v => some (.b (!v), .same)
    | .neg, .i k n => some (.i k (k.wrap (0 - n)), .same)
    | .xor, .i k n => some (.i k (k.wrap (BitVec.ofInt k.bits (bif k.signed then -1 else k.max) ^^^ BitVec.ofInt k.bits n).toNat), .same)
    | _, _ => none

def op_conv (t : Tmps) (_h : AH) (k : IntKind) (x : AX) : Option (AV × HD) := match x.ev t with | .i _ n => some (.i k (k.wrap n), .same) | _ => none

def op_mkf (t : Tmps) (_h : AH) (f : Nat) (caps : List AX) : Option (AV × HD) := some (.fn f (evs t caps), .same)

def op_mkmap (_t : Tmps) (h : AH) : Option (AV × HD) := some (.mp h.n, HD.add (.map []))

def op_mks (t : Tmps) (h : AH) (es : Nat) (bytes : Nat) (zero : List AV) (l : AX) (c : AX) : Option (AV × HD) := match l.ev t, c.ev t with
    | .i _ (.ofNat ln), .i _ (.ofNat cn) => bif Nat.ble ln cn && Nat.ble (bytes * cn) 140737488355328 && Nat.ble cn 140737488355328 then some (.sl h.n 0 ln (some cn) es, HD.add (.cells true (rep cn zero))) else none
    | _, _ => none

def op_slice (t : Tmps) (_h : AH) (es : Nat) (x : AX) (lo : Option AX) (hi : Option AX) (mx : Option AX) : Option (AV × HD) := match aSlice es (x.ev t) (lo.map (·.ev t)) (hi.map (·.ev t)) (mx.map (·.ev t)) with | some v => some (v, .same) | none => none

def op_flda (t : Tmps) (_h : AH) (off : Nat) (x : AX) : Option (AV × HD) := match x.ev t with | .ptr id o => some (.ptr id (o + off), .same) | _ => none

def op_fld (t : Tmps) (_h : AH) (agg : Bool) (off : Nat) (size : Nat) (x : AX) : Option (AV × HD) := match x.ev t with
    | .agg l => bif agg then (match cut off size l with | some c => some (.agg c, .same) | none => none)
      else (match cut off 1 l with | some [v] => some (v, .same) | _ => none)
    | _ => none

def op_idxa (t : Tmps) (_h : AH) (es : Nat) (x : AX) (i : AX) : Option (AV × HD) := match x.ev t, i.ev t with
    | .sl id off len _ es', .i _ (.ofNat n) => bif Nat.beq es es' && Nat.blt n len then some (.ptr id (off + n * es), .same) else none
    | _, _ => none

def op_idxp (t : Tmps) (_h : AH) (len : Nat) (es : Nat) (x : AX) (i : AX) : Option (AV × HD) := match x.ev t, i.ev t with
    | .ptr id off, .i _ (.ofNat n) => bif Nat.blt n len then some (.ptr id (off + n * es), .same) else none
    | _, _ => none

def op_idx (t : Tmps) (_h : AH) (agg : Bool) (len : Nat) (es : Nat) (x : AX) (i : AX) : Option (AV × HD) := match x.ev t, i.ev t with
    | .agg l, .i _ (.ofNat n) => bif Nat.blt n len then
        (bif agg then (match cut (n * es) es l with | some c => some (.agg c, .same) | none => none)
        else (match cut (n * es) 1 l with | some [v] => some (v, .same) | _ => none))
      else none
    | _, _ => none

def op_idxs (t : Tmps) (_h : AH) (x : AX) (i : AX) : Option (AV × HD) := match x.ev t, i.ev t with
    | .str l, .i _ (.ofNat n) => match l[n]? with | some c => some (.i .u8 c.toNat, .same) | none => none
    | _, _ => none

def op_lookup (t : Tmps) (h : AH) (zero : AV) (ok : Bool) (kt : EqT) (m k : AX) : Option (AV × HD) :=
  bif keyOk kt (k.ev t) then
    match m.ev t with
    | .nilm => some (bif ok then .tup [zero, .b false] else zero, .same)
    | .mp id => match h.get id with
      | some (.map es) => match mloc (k.ev t) es 0 with
        | some (some i) => match es[i]? with
          | some (_, v) => some (bif ok then .tup [v, .b true] else v, .same)
          | none => none
        | some none => some (bif ok then .tup [zero, .b false] else zero, .same)
        | none => none
      | _ => none
    | _ => none
  else none

def op_mapup (t : Tmps) (h : AH) (kt : EqT) (m k v : AX) : Option (AV × HD) :=
  bif keyOk kt (k.ev t) then
    match m.ev t with
    | .mp id => match h.get id with
      | some (.map es) => match mloc (k.ev t) es 0 with
        | some (some i) => some (und, HD.put id (.map (es.set i (k.ev t, v.ev t))))
        | some none => some (und, HD.put id (.map (es ++ [(k.ev t, v.ev t)])))
        | none => none
      | _ => none
    | _ => none
  else none

def op_ext (t : Tmps) (_h : AH) (x : AX) (i : Nat) : Option (AV × HD) := match x.ev t with
    | .tup l => match l[i]? with | some v => some (v, .same) | none => none
    | _ => none

def op_app (t : Tmps) (h : AH) (es : Nat) (bytes : Nat) (s : AX) (x : AX) : Option (AV × HD) := aAppend h es bytes (s.ev t) (x.ev t)

def op_len (t : Tmps) (_h : AH) (x : AX) : Option (AV × HD) := match x.ev t with
    | .nils => some (.i .i64 0, .same)
    | .sl _ _ n _ _ => some (.i .i64 n, .same)
    | _ => none

def op_lens (t : Tmps) (_h : AH) (x : AX) : Option (AV × HD) := match x.ev t with
    | .str s => some (.i .i64 s.length, .same)
    | _ => none

def op_lenm (t : Tmps) (h : AH) (x : AX) : Option (AV × HD) := match x.ev t with
    | .nilm => some (.i .i64 0, .same)
    | .mp id => match h.get id with
      | some (.map es) => some (.i .i64 es.length, .same)
      | _ => none
    | _ => none

def op_min (t : Tmps) (_h : AH) (l : List AX) : Option (AV × HD) := match foldInts (fun x y => bif iLt y x then y else x) (evs t l) with | some v => some (v, .same) | none => none

def op_max (t : Tmps) (_h : AH) (l : List AX) : Option (AV × HD) := match foldInts (fun x y => bif iLt x y then y else x) (evs t l) with | some v => some (v, .same) | none => none

def aopD (t : Tmps) (h : AH) : AOp → Option (AV × HD)
  | .mv x => op_mv t h x
  | .pick c a b => op_pick t h c a b
  | .new zero => op_new t h zero
  | .box n x => op_box t h n x
  | .build zero parts => op_build t h zero parts
  | .bsl es len zero parts => op_bsl t h es len zero parts
  | .ld a => op_ld t h a
  | .ldn n a => op_ldn t h n a
  | .st n a x => op_st t h n a x
  | .nilck x => op_nilck t h x
  | .bin op x y => op_bin t h op x y
  | .eq e neg x y => op_eq t h e neg x y
  | .un op x => op_un t h op x
  | .conv k x => op_conv t h k x
  | .mkf f caps => op_mkf t h f caps
  | .mkmap => op_mkmap t h
  | .mks es bytes zero l c => op_mks t h es bytes zero l c
  | .slice es x lo hi mx => op_slice t h es x lo hi mx
  | .flda off x => op_flda t h off x
  | .fld agg off size x => op_fld t h agg off size x
  | .idxa es x i => op_idxa t h es x i
  | .idxp len es x i => op_idxp t h len es x i
  | .idx agg len es x i => op_idx t h agg len es x i
  | .idxs x i => op_idxs t h x i
  | .lookup zero ok kt m k => op_lookup t h zero ok kt m k
  | .mapup kt m k v => op_mapup t h kt m k v
  | .ext x i => op_ext t h x i
  | .call .. => none
  | .app es bytes s x => op_app t h es bytes s x
  | .len x => op_len t h x
  | .lens x => op_lens t h x
  | .lenm x => op_lenm t h x
  | .min l => op_min t h l
  | .max l => op_max t h l

/-- Is it a call? -/
def isCall : AOp → Bool
  | .call .. => true
  | _ => false

def aop (t : Tmps) (h : AH) (o : AOp) : Option (AV × AH) := match aopD t h o with
  | some (v, d) => some (v, d.on h)
  | none => none

structure St where
  t : Tmps
  h : AH

def putD (t : Tmps) (d : Option Sl) (v : AV) : Tmps := match d with | some n => tset t n v | none => t

inductive AE where
  | normal
  | exit (id : Nat)
  | ret

/-- How a call runs. -/
abbrev CallF := Nat → List AV → AH → Option (AV × AH)

def runOp (ih : CallF) (t : Tmps) (h : AH) (o : AOp) : Option (AV × AH) :=
  match o with
  | .call f args => match f.ev t with
    | .fn g caps => ih g (evs t args ++ caps) h
    | _ => none
  | o => aop t h o

def wantedA (t : Tmps) : Option (Sl × Bool) → Bool
  | none => true
  | some (d, w) => match tget t d with
    | .b v => v == w
    | _ => false

def runReg (ih : CallF) : List AOper → Tmps → AH → Option (Tmps × AH)
  | [], t, h => some (t, h)
  | o :: r, t, h =>
    bif wantedA t o.guard then
      match runOp ih t h o.op with
      | some (v, h') => runReg ih r (putD t o.dst v) h'
      | none => none
    else runReg ih r (putD t o.dst und) h

def big : Nat := 2 ^ 200

def minN (a b : Nat) : Nat := bif Nat.ble a b then a else b

/-- Of the operations that were run: what those made and wrote that need not be ahead of this one. -/
def hideOf (pre : Nat) : List (Nat × List (Nat × Nat)) → List (Nat × Nat)
  | [] => []
  | (j, l) :: r => bif Nat.testBit pre j then hideOf pre r else l ++ hideOf pre r

/-- Does it leave memory alone, and not look at it? -/
def isPure : AOp → Bool
  | .mv _ | .pick .. | .build .. | .nilck _ | .bin .. | .eq .. | .un .. | .conv .. | .mkf .. | .slice .. | .flda .. | .fld .. | .idxa .. | .idxp .. | .idx .. | .idxs .. | .ext .. | .len _ | .lens _ | .min _ | .max _ => true
  | _ => false

/-- Does it make an object, and look at none? -/
def isNew : AOp → Bool
  | .new _ | .box .. | .bsl .. | .mkmap | .mks .. => true
  | _ => false

/-- Does it write an object that was there (or give it up)? -/
def isWrite : AOp → Bool
  | .st .. | .mapup .. | .app .. => true
  | _ => false

/-- The object that it writes. -/
def target (t : Tmps) : AOp → List (Nat × Nat)
  | .st _ a _ => match a.ev t with | .ptr id _ => [(id, id + 1)] | _ => []
  | .mapup _ m _ _ => match m.ev t with | .mp id => [(id, id + 1)] | _ => []
  | .app _ _ s _ => match s.ev t with | .sl id _ _ _ _ => [(id, id + 1)] | _ => []
  | _ => []

def targetC (t : Tmps) (n : Nat) (o : AOp) : List (Nat × Nat) := (target t o).filter fun p => Nat.ble p.2 n

/-- One operation of a region whose order is open: it does not touch what those made or wrote that it may be ahead of; if it is a call it writes nothing that was there. -/
def runLoose (ih : CallF) (t : Tmps) (h : AH) (hid : List (Nat × Nat)) (o : AOp) : Option (AV × AH) :=
  match runOp ih t { h with wm := h.n, hid := (bif isNew o then [(0, h.n)] else hid) ++ h.hid } o with
  | none => none
  | some (v, h') => bif isWrite o || Nat.ble h.n h'.wm then some (v, { h' with wm := minN h.wm h'.wm, hid := h.hid }) else none

def runDreg (ih : CallF) : List (Nat × AOper × Nat × Bool) → List (Nat × List (Nat × Nat)) → Tmps → AH → Option (Tmps × AH)
  | [], _, t, h => some (t, h)
  | (k, o, pre, bar) :: r, made, t, h =>
    bif wantedA t o.guard then
      bif bar || isPure o.op then
        match runOp ih t h o.op with
        | some (v, h') => runDreg ih r made (putD t o.dst v) h'
        | none => none
      else
        match runLoose ih t h (hideOf pre made) o.op with
        | some (v, h') => runDreg ih r ((k, (h.n, h'.n) :: targetC t h.n o.op) :: made) (putD t o.dst v) h'
        | none => none
    else runDreg ih r made (putD t o.dst und) h

abbrev CodeF := AC → Tmps → AH → Option (AE × Tmps × AH)

def stepC (call : CallF) (ih : CodeF) : CodeF
  | .skip, t, h => some (.normal, t, h)
  | .reg ops, t, h => match runReg call ops t h with
    | some (t, h) => some (.normal, t, h)
    | none => none
  | .dreg ops, t, h => match runDreg call ops [] t h with
    | some (t, h) => some (.normal, t, h)
    | none => none
  | .seq a b, t, h => match stepC call ih a t h with
    | some (.normal, t, h) => stepC call ih b t h
    | r => r
  | .cond c a b, t, h => match c.ev t with
    | .b true => stepC call ih a t h
    | .b false => stepC call ih b t h
    | _ => none
  | .block id b, t, h => match stepC call ih b t h with
    | some (.exit j, t, h) => some (bif Nat.beq j id then .normal else .exit j, t, h)
    | r => r
  | .loop b, t, h => match stepC call ih b t h with
    | some (.normal, t, h) => ih (.loop b) t h
    | r => r
  | .exit id, t, h => some (.exit id, t, h)
  | .ret, t, h => some (.ret, t, h)

def argsT : Nat → List AV → Tmps → Tmps
  | _, [], t => t
  | n, v :: r, t => argsT (n + 1) r (tset t (toSl n) v)

def resOf (t : Tmps) (h : AH) : List ARes → Option (List AV)
  | [] => some []
  | .t n :: r => match resOf t h r with | some l => some (tget t n :: l) | none => none
  | .cell a agg size :: r => match loadN h (bif agg then size else 1) (tget t a), resOf t h r with
    | some c, some l => bif agg then some (.agg c :: l) else (match c with | [v] => some (v :: l) | _ => none)
    | _, _ => none

def finish (f : AFunc) (t : Tmps) (h : AH) : Option (AV × AH) :=
  match resOf t h f.res with
  | some [v] => some (v, h)
  | some l => some (.tup l, h)
  | none => none

/-- A function's body, from its arguments on. -/
def enter (code : CodeF) (f : AFunc) (args : List AV) (h : AH) : Option (AV × AH) :=
  bif Nat.beq args.length f.nargs then
    match code f.body (argsT 0 args noT) h with
    | some (.normal, t, h) | some (.ret, t, h) => finish f t h
    | _ => none
  else none

def acode (F : Tr AFunc) (n : Nat) : CodeF :=
  Nat.rec (motive := fun _ => CodeF) (fun _ _ _ => none) (fun _ ih => stepC (fun g args h => match F.get g with | some f => enter ih f args h | none => none) ih) n

def arun (F : Tr AFunc) (n : Nat) : CallF := fun g args h => match F.get g with | some f => enter (acode F n) f args h | none => none

def emptyH : AH := { os := .nil, n := 0, wm := big, hid := [] }

end Go.AM
end
section
/- How a function of a program becomes code of the abstract machine. Plain definitions; no condition. -/
namespace Go.AM

/-- Constants. -/
def cvS : Value → Option AV
  | .bool b => some (.b b)
  | .int k n => some (.i k n)
  | .string s => some (.str s.toList)
  | .pointer none => some .nilp
  | .slice none 0 0 => some .nils
  | .map none => some .nilm
  | .nilFunc => some .nilf
  | .nilIface => some .nili
  | _ => none

def cvL : List Value → Option (List AV)
  | [] => some []
  | v :: r => match cvS v, cvL r with
    | some x, some l => some (x :: l)
    | _, _ => none

def cv : Value → Option AV
  | .agg cs => match cvL cs.toList with | some l => some (.agg l) | none => none
  | .tuple cs => match cvL cs.toList with | some l => some (.tup l) | none => none
  | v => cvS v

section
variable (P : Program) (ren : FuncId → Option Nat)

def aggB (t : TypeId) : Option Bool := match P.underlying t with
  | some (.struct _) => some true
  | some (.array _ _) => some true
  | some _ => some false
  | none => none

def sizeB (t : TypeId) : Option Nat := (P.info? t).map (·.size)
def bytesB (t : TypeId) : Option Nat := (P.info? t).map (·.bytes)
def zeroB (t : TypeId) : Option AV := match P.info? t with | some i => (match i.zero with | some z => cv z | none => none) | none => none

def cx : Operand → Option AX
  | .tmp t => bif Nat.blt t 512 then some (.t (toSl t)) else none
  | .const v => match cv v with | some x => some (.c x) | none => none
  | .func f => match ren f with | some g => some (.c (.fn g [])) | none => none
  | .global _ => none

def cxs : List Operand → Option (List AX)
  | [] => some []
  | x :: r => match cx ren x, cxs r with
    | some y, some l => some (y :: l)
    | _, _ => none

def cxo : Option Operand → Option (Option AX)
  | none => some none
  | some x => match cx ren x with | some y => some (some y) | none => none

/-- Where a struct's or an array's part lies: its first cell and its size. -/
def placeB (t : TypeId) (i : Nat) : Option (Nat × Nat) :=
  match P.underlying t with
  | some (.struct fs) => match fs[i]? with
    | some f => match sizeB P f.type with | some (s + 1) => some (f.offset, s + 1) | _ => none
    | none => none
  | some (.array _ e) => match sizeB P e with | some (s + 1) => some (i * (s + 1), s + 1) | _ => none
  | some (.slice e) => match sizeB P e with | some (s + 1) => some (i * (s + 1), s + 1) | _ => none
  | _ => none

def cParts (t : TypeId) : List (Nat × Operand) → Option (List (Nat × Nat × AX))
  | [] => some []
  | (i, x) :: r => match placeB P t i, cx ren x, cParts t r with
    | some (o, s), some y, some l => some ((o, s, y) :: l)
    | _, _, _ => none

def intField (x : Field × Nat) : Bool := (match P.underlying x.1.type, sizeB P x.1.type with | some (.int _), some 1 => true | _, _ => false) && (x.1.offset == x.2 && x.1.name != "_")

/-- All fields have one integer cell (and none is called '_'): how many. -/
def intsB (t : TypeId) : Option Nat := match P.underlying t with
  | some (.array n e) => match P.underlying e, sizeB P e with
    | some (.int _), some 1 => some n
    | _, _ => none
  | some (.struct fs) =>
    bif fs.toList.zipIdx.all (intField P) && !P.stoodInHeld t then some fs.size else none
  | _ => none

def eqB (t : TypeId) : Option EqT := match P.underlying t with
  | some .bool => some .bool
  | some (.int _) => some .int
  | some .string => some .str
  | some (.slice _) => some .slice
  | some (.pointer _) => some .ptr
  | some (.map _ _) => some .map
  | some (.func _ _ _) => some .func
  | some (.array _ _) | some (.struct _) => match intsB P t with | some n => (bif P.eqGuardType P.depth t then none else some (.ints n)) | none => none
  | _ => none

/-- A map's key: an integer, a string, a bool, or so many integers. -/
def keyB (t : TypeId) : Option EqT := match P.underlying t with
  | some (.int _) => some .int
  | some .string => some .str
  | some .bool => some .bool
  | some (.array _ _) => match intsB P t with | some n => some (.ints n) | none => none
  | _ => none

def compOp (o : Oper) : Option AOp :=
  match o.op with
  | .move x => do some (.mv (← cx ren x))
  | .assign x => do some (.mv (← cx ren x))
  | .pick c a b => do some (.pick (← cx ren c) (← cx ren a) (← cx ren b))
  | .alloc e => do
    let z ← zeroB P e
    bif z.flat.isEmpty then none else some (.new z.flat)
  | .box e x => do
    let s ← sizeB P e
    bif Nat.beq s 0 then none else do some (.box s (← cx ren x))
  | .build t parts => do
    let z ← zeroB P t
    match P.underlying t with
    | some (.struct fs) => bif z.flat.isEmpty || !fs.toList.all (fun f => (sizeB P f.type).isSome) then none else do some (.build z.flat (← cParts P ren t parts.toList))
    | some (.array _ e) => bif z.flat.isEmpty || !(sizeB P e).isSome then none else do some (.build z.flat (← cParts P ren t parts.toList))
    | _ => none
  | .buildSlice t len parts =>
    match P.underlying t with
    | some (.slice e) => do
      let s ← sizeB P e
      let z ← zeroB P e
      let ps ← cParts P ren t parts.toList
      bif Nat.beq z.flat.length s && !Nat.beq s 0 && Nat.ble (len * s) 16777216 then some (.bsl s len (rep len z.flat) ps) else none
    | _ => none
  | .load t a => do
    let x ← cx ren a
    match aggB P t with
    | some true => do some (.ldn (← sizeB P t) x)
    | some false => some (.ld x)
    | none => none
  | .store t a v => do
    let s ← sizeB P t
    bif Nat.beq s 0 then none else do some (.st s (← cx ren a) (← cx ren v))
  | .nilCheck x => do some (.nilck (← cx ren x))
  | .binOp op t x y _ => do
    let a ← cx ren x
    let b ← cx ren y
    match op with
    | .eql => do some (.eq (← eqB P t) false a b)
    | .neq => do some (.eq (← eqB P t) true a b)
    | _ => some (.bin op a b)
  | .unOp op _ x => do some (.un op (← cx ren x))
  | .convert s d x => match P.underlying s, P.underlying d with
    | some (.int _), some (.int k) => do some (.conv k (← cx ren x))
    | _, _ => none
  | .makeFunc (.func f) first caps => do
    bif Nat.beq first.size 0 then do some (.mkf (← ren f) (← cxs ren caps.toList)) else none
  | .makeMap _ none => some .mkmap
  | .makeSlice t l c => match P.underlying t with
    | some (.slice e) => do
      let s ← sizeB P e
      let z ← zeroB P e
      bif Nat.beq z.flat.length s && !Nat.beq s 0 then do some (.mks s (← bytesB P e) z.flat (← cx ren l) (← cx ren c)) else none
    | _ => none
  | .slice t x lo hi mx => match P.underlying t with
    | some (.slice e) => do some (.slice (← sizeB P e) (← cx ren x) (← cxo ren lo) (← cxo ren hi) (← cxo ren mx))
    | _ => none
  | .fieldAddr t x f => match P.underlying t with
    | some (.struct fs) => match fs[f]? with
      | some fd => do
        let s ← sizeB P fd.type
        bif Nat.beq s 0 then none else do some (.flda fd.offset (← cx ren x))
      | none => none
    | _ => none
  | .field t x f => match P.underlying t with
    | some (.struct fs) => match fs[f]? with
      | some fd => do some (.fld (← aggB P fd.type) fd.offset (← sizeB P fd.type) (← cx ren x))
      | none => none
    | _ => none
  | .indexAddr t x i => match P.underlying t with
    | some (.slice e) => do some (.idxa (← sizeB P e) (← cx ren x) (← cx ren i))
    | some (.array n e) => do some (.idxp n (← sizeB P e) (← cx ren x) (← cx ren i))
    | _ => none
  | .index t x i => match P.underlying t with
    | some (.array n e) => do some (.idx (← aggB P e) n (← sizeB P e) (← cx ren x) (← cx ren i))
    | some .string => do some (.idxs (← cx ren x) (← cx ren i))
    | _ => none
  | .lookup t m k ok => match P.underlying t with
    | some (.map kt e) => do
      some (.lookup (← zeroB P e) ok (← keyB P kt) (← cx ren m) (← cx ren k))
    | _ => none
  | .mapUpdate t m k v | .insert t m k v => match P.underlying t with
    | some (.map kt _) => do
      some (.mapup (← keyB P kt) (← cx ren m) (← cx ren k) (← cx ren v))
    | _ => none
  | .extract x i => do some (.ext (← cx ren x) i)
  | .call { callee := .value f, args, .. } => do some (.call (← cx ren f) (← cxs ren args.toList))
  | .call { callee := .builtin .append, args, argTypes } => match args.toList, argTypes.toList with
    | [s, x], [ts, tx] => match P.underlying ts, P.underlying tx with
      | some (.slice e), some (.slice e') => do
        let z ← zeroB P e
        let n ← sizeB P e
        bif Nat.beq n ((sizeB P e').getD 0) && Nat.beq z.flat.length n && !Nat.beq n 0 then do some (.app n (← bytesB P e) (← cx ren s) (← cx ren x)) else none
      | _, _ => none
    | _, _ => none
  | .call { callee := .builtin .len, args, argTypes } => match args.toList, argTypes.toList with
    | [x], [t] => match P.underlying t with
      | some (.slice _) => do some (.len (← cx ren x))
      | some .string => do some (.lens (← cx ren x))
      | some (.map _ _) => do some (.lenm (← cx ren x))
      | _ => none
    | _, _ => none
  | .call { callee := .builtin .min, args, .. } => do some (.min (← cxs ren args.toList))
  | .call { callee := .builtin .max, args, .. } => do some (.max (← cxs ren args.toList))
  | _ => none

def guardB (ops : Array Oper) (o : Oper) : Option (Option (Sl × Bool)) := match o.guard with
  | none => some none
  | some (j, w) => match (ops[j]?).bind (·.dst) with
    | some d => bif Nat.blt d 512 then some (some (toSl d, w)) else none
    | none => none

def compOper (ops : Array Oper) (o : Oper) : Option AOper := do
  some { dst := o.dst.map toSl, op := ← compOp P ren o, guard := ← guardB ops o }

def compOpers (ops : Array Oper) : List Oper → Option (List AOper)
  | [] => some []
  | o :: r => do some ((← compOper P ren ops o) :: (← compOpers ops r))

/-- With each operation what is ahead of it whatever the order (bits). -/
def befores (ops : Array Oper) : List Nat := (Region.before ops).toList

/-- Two operations, one of them ahead of the other one whatever the order. -/
def tied (b : List Nat) (i j : Nat) : Bool := Nat.testBit (b.getD i 0) j || Nat.testBit (b.getD j 0) i

/-- Is an operation ahead of or behind each other one that touches memory? -/
def barrier (b : List Nat) (l : List AOper) (i : Nat) : Bool :=
  l.zipIdx.all fun (o, k) => isPure o.op || Nat.beq k i || tied b i k

/-- The order in which they are run: what writes as early as may be. -/
def orderOf (b : List Nat) (l : List AOper) : List Nat :=
  let n := l.length
  let ws := (l.zipIdx.filter fun (o, _) => isWrite o.op).map (·.2)
  let first := ws.foldl (init := ([] : List Nat)) fun acc w =>
    acc ++ (List.range n).filter (fun j => (Nat.testBit (b.getD w 0) j || j == w) && !acc.contains j)
  first ++ (List.range n).filter (fun j => !first.contains j)

/-- Each once, and behind all that is ahead of it whatever the order. -/
def orderOk (b : List Nat) (n : Nat) (L : List Nat) : Bool :=
  Nat.beq L.length n && (List.range n).all (fun i => L.contains i) && go [] L
  where go (seen : List Nat) : List Nat → Bool
  | [] => true
  | i :: r => Nat.blt i n && !seen.contains i && (List.range n).all (fun j => !Nat.testBit (b.getD i 0) j || seen.contains j) && go (i :: seen) r

/-- Ahead of what writes, and not tied to it, there is nothing that looks at memory. -/
def writesOk (b : List Nat) (l : List AOper) : List Nat → Bool
  | [] => true
  | i :: r => (match l[i]? with
      | some o => isPure o.op || isNew o.op || r.all fun j => match l[j]? with | some o' => !isWrite o'.op || tied b i j | none => false
      | none => false) && writesOk b l r

def zipD (b : List Nat) (l : List AOper) : List Nat → Option (List (Nat × AOper × Nat × Bool))
  | [] => some []
  | i :: r => match l[i]?, zipD b l r with
    | some o, some q => some ((i, o, b.getD i 0, barrier b l i) :: q)
    | _, _ => none

end
end Go.AM
namespace Go.AM
section
variable (P : Program) (ren : FuncId → Option Nat)
def AX.looks : AX → List Sl
  | .t n => [n]
  | .c _ => []
def looksL : List AX → List Sl
  | [] => []
  | x :: r => x.looks ++ looksL r
def looksP : List (Nat × Nat × AX) → List Sl
  | [] => []
  | (_, _, x) :: r => x.looks ++ looksP r
def looksO : Option AX → List Sl
  | some x => x.looks
  | none => []

/-- The slots that an operation looks at. -/
def AOp.looks : AOp → List Sl
  | .mv x => x.looks
  | .pick c a b => c.looks ++ a.looks ++ b.looks
  | .new _ => []
  | .box _ x => x.looks
  | .build _ ps => looksP ps
  | .bsl _ _ _ ps => looksP ps
  | .ld a => a.looks
  | .ldn _ a => a.looks
  | .st _ a x => a.looks ++ x.looks
  | .nilck x => x.looks
  | .bin _ x y => x.looks ++ y.looks
  | .eq _ _ x y => x.looks ++ y.looks
  | .un _ x => x.looks
  | .conv _ x => x.looks
  | .mkf _ l => looksL l
  | .mkmap => []
  | .mks _ _ _ l c => l.looks ++ c.looks
  | .slice _ x lo hi mx => x.looks ++ looksO lo ++ looksO hi ++ looksO mx
  | .flda _ x => x.looks
  | .fld _ _ _ x => x.looks
  | .idxa _ x i => x.looks ++ i.looks
  | .idxp _ _ x i => x.looks ++ i.looks
  | .idx _ _ _ x i => x.looks ++ i.looks
  | .idxs x i => x.looks ++ i.looks
  | .lookup _ _ _ m k => m.looks ++ k.looks
  | .mapup _ m k v => m.looks ++ k.looks ++ v.looks
  | .ext x _ => x.looks
  | .call f l => f.looks ++ looksL l
  | .app _ _ s x => s.looks ++ x.looks
  | .len x => x.looks
  | .lens x => x.looks
  | .lenm x => x.looks
  | .min l => looksL l
  | .max l => looksL l

def AOper.looks (o : AOper) : List Sl := (match o.guard with | some (g, _) => [g] | none => []) ++ o.op.looks

/-- Two operations touch one slot, and one of them writes it. -/
def clash (x y : AOper) : Bool :=
  (match x.dst with | some d => y.looks.contains d || (match y.dst with | some e => d == e | none => false) | none => false) ||
  (match y.dst with | some d => x.looks.contains d | none => false)

/-- Of two that clash one is ahead whatever the order. -/
def clashesOk (l : List AOper) (b : List Nat) : Bool :=
  (List.range l.length).all fun j => (List.range j).all fun i =>
    match l[i]?, l[j]? with
    | some x, some y => !clash x y || tied b i j
    | _, _ => true

/-- Whatever binds lies ahead in the text, and is among the bits. -/
def edgesOk (ops : Array Oper) (b : List Nat) : Bool :=
  ops.toList.zipIdx.all fun (o, i) => o.after.all fun e => !Region.binds .any e || (Nat.blt e.on i && Nat.testBit (b.getD i 0) e.on)

def dstOk (n : Nat) (ops : Array Oper) : Bool := ops.all fun o => match o.dst with | some d => Nat.blt d n | none => true

/-- The bits say no more than what the edges lead to. -/
def bitsOk (ops : Array Oper) (b : List Nat) : Bool :=
  (List.range ops.size).all fun i => (List.range ops.size).all fun j => !Nat.testBit (b.getD i 0) j ||
    (match ops[i]? with | some o => o.after.any fun e => Region.binds .any e && (Nat.beq e.on j || Nat.testBit (b.getD e.on 0) j) | none => false)

def compCode (nt : Nat) : Code → Option AC
  | .skip => some .skip
  | .region _ ops false => do
    let l ← compOpers P ren ops ops.toList
    bif dstOk nt ops then some (.reg l) else none
  | .region _ ops true => do
    let l ← compOpers P ren ops ops.toList
    let b := befores ops
    let L := orderOf b l
    bif dstOk nt ops && edgesOk ops b && clashesOk l b && bitsOk ops b && orderOk b ops.size L && writesOk b l L then do some (.dreg (← zipD b l L)) else none
  | .seq a b => do some (.seq (← compCode nt a) (← compCode nt b))
  | .cond c a b => do some (.cond (← cx ren c) (← compCode nt a) (← compCode nt b))
  | .block id b => do some (.block id (← compCode nt b))
  | .loop b => do some (.loop (← compCode nt b))
  | .exit id => some (.exit id)
  | .ret => some .ret
  | _ => none

def compRes : List ResultVar → Option (List ARes)
  | [] => some []
  | .tmp t :: r => bif Nat.blt t 512 then do some (.t (toSl t) :: (← compRes r)) else none
  | .cell a t :: r => bif Nat.blt a 512 then do some (.cell (toSl a) (← aggB P t) (← sizeB P t) :: (← compRes r)) else none

def compFunc (f : Func) : Option AFunc := do
  let c ← f.body
  bif f.name != "runtime.NumGoroutine" && Nat.ble (f.params.size + f.nfree) f.ntmps && Nat.ble f.ntmps 512 then do
    some { nargs := f.params.size + f.nfree, res := ← compRes P f.results.toList, body := ← compCode P ren f.ntmps c }
  else none
end
end Go.AM
end
section
/- How what the abstract machine holds stands to the model's values and memory. Definitions and their first laws; no condition. -/
namespace Go.AM

/-- Where an object lies: its block, how many cells are ahead of it there, how many the block has. -/
structure RM where
  blk : Nat
  sh : Nat
  sz : Nat
  deriving Inhabited

abbrev Rho := Nat → Option RM
def Rho.le (ρ ρ' : Rho) : Prop := ∀ i e, ρ i = some e → ρ' i = some e
def Rho.upd (ρ : Rho) (i : Nat) (e : RM) : Rho := fun j => if j = i then some e else ρ j

/-- A value of one cell. -/
def AV.one : AV → Bool
  | .agg _ | .tup _ => false
  | _ => true

section
variable (ren : FuncId → Option Nat)

inductive VR (ρ : Rho) : AV → Value → Prop where
  | b (x : Bool) : VR ρ (.b x) (.bool x)
  | i (k : IntKind) (n : Int) : VR ρ (.i k n) (.int k n)
  | str (s : ByteArray) : VR ρ (.str s.toList) (.string s)
  | nilp : VR ρ .nilp (.pointer none)
  | ptr {id off : Nat} {e : RM} (h : ρ id = some e) : VR ρ (.ptr id off) (.pointer (some ⟨e.blk, e.sh + off, none⟩))
  | nils : VR ρ .nils (.slice none 0 0)
  | slx {id off len c es o : Nat} {e : RM} (h : ρ id = some e) (hl : len ≤ c) (ho : o = e.sh + off ∨ c = 0) : VR ρ (.sl id off len (some c) es) (.slice (some ⟨e.blk, o, none⟩) len c)
  | slo {id off len c es o : Nat} {e : RM} (h : ρ id = some e) (hl : len ≤ c) (hz : o + c * es ≤ e.sz) (ho : o = e.sh + off ∨ c = 0) : VR ρ (.sl id off len none es) (.slice (some ⟨e.blk, o, none⟩) len c)
  | nilm : VR ρ .nilm (.map none)
  | mp {id : Nat} {e : RM} (h : ρ id = some e) : VR ρ (.mp id) (.map (some e.blk))
  | nilf : VR ρ .nilf .nilFunc
  | fn {g : Nat} {f : FuncId} {l : List AV} {a : Array Value} (hf : ren f = some g) (hl : l.length = a.size) (h : ∀ (j : Nat) (x : AV) (y : Value), l[j]? = some x → a[j]? = some y → VR ρ x y) : VR ρ (.fn g l) (.func (.func f) #[] a)
  | nili : VR ρ .nili .nilIface
  | agg {l : List AV} {a : Array Value} (hl : l.length = a.size) (h1 : ∀ x ∈ l, x.one = true) (h : ∀ (j : Nat) (x : AV) (y : Value), l[j]? = some x → a[j]? = some y → VR ρ x y) : VR ρ (.agg l) (.agg a)
  | tup {l : List AV} {a : Array Value} (hl : l.length = a.size) (h : ∀ (j : Nat) (x : AV) (y : Value), l[j]? = some x → a[j]? = some y → VR ρ x y) : VR ρ (.tup l) (.tuple a)

def VRL (ρ : Rho) (l : List AV) (a : List Value) : Prop := l.length = a.length ∧ ∀ (j : Nat) (x : AV) (y : Value), l[j]? = some x → a[j]? = some y → VR ren ρ x y

variable {ren}

theorem VR.mono {ρ ρ' : Rho} (hle : ρ.le ρ') {x : AV} {y : Value} (h : VR ren ρ x y) : VR ren ρ' x y := by
  induction h with
  | b x => exact .b x
  | i k n => exact .i k n
  | str s => exact .str s
  | nilp => exact .nilp
  | ptr h => exact .ptr (hle _ _ h)
  | nils => exact .nils
  | slx h hl ho => exact .slx (hle _ _ h) hl ho
  | slo h hl hz ho => exact .slo (hle _ _ h) hl hz ho
  | nilm => exact .nilm
  | mp h => exact .mp (hle _ _ h)
  | nilf => exact .nilf
  | fn hf hl _ ih => exact .fn hf hl ih
  | nili => exact .nili
  | agg hl h1 _ ih => exact .agg hl h1 ih
  | tup hl _ ih => exact .tup hl ih

theorem VRL.mono {ρ ρ' : Rho} (hle : ρ.le ρ') {x : List AV} {y : List Value} (h : VRL ren ρ x y) : VRL ren ρ' x y :=
  ⟨h.1, fun j a b ha hb => (h.2 j a b ha hb).mono hle⟩

theorem VRL.nil (ρ : Rho) : VRL ren ρ [] [] := ⟨rfl, fun j x y h _ => by simp at h⟩
theorem VRL.cons {ρ : Rho} {x : AV} {y : Value} {l : List AV} {a : List Value} (h : VR ren ρ x y) (hr : VRL ren ρ l a) : VRL ren ρ (x :: l) (y :: a) := by
  refine ⟨by simp [hr.1], fun j u v hu hv => ?_⟩
  cases j with
  | zero => simp at hu hv; subst hu; subst hv; exact h
  | succ j => simp at hu hv; exact hr.2 j u v hu hv
theorem VRL.cons_inv {ρ : Rho} {x : AV} {l : List AV} {b : List Value} (h : VRL ren ρ (x :: l) b) : ∃ y a, b = y :: a ∧ VR ren ρ x y ∧ VRL ren ρ l a := by
  cases b with
  | nil => have := h.1; simp at this
  | cons y a => exact ⟨y, a, rfl, h.2 0 x y (by simp) (by simp), by have := h.1; simpa using this, fun j u v hu hv => h.2 (j + 1) u v (by simpa using hu) (by simpa using hv)⟩
theorem VRL.append {ρ : Rho} {l l' : List AV} {a a' : List Value} (h : VRL ren ρ l a) (h' : VRL ren ρ l' a') : VRL ren ρ (l ++ l') (a ++ a') := by
  induction l generalizing a with
  | nil =>
    cases a with
    | nil => simpa using h'
    | cons y a => have := h.1; simp at this
  | cons x l ih =>
    obtain ⟨y, b, rfl, h1, h2⟩ := h.cons_inv
    exact (ih h2).cons h1

theorem VR.one {ρ : Rho} {x : AV} {y : Value} (h : VR ren ρ x y) (h1 : x.one = true) : y.oneCell' = true := by
  cases h <;> first | rfl | simp [AV.one] at h1
theorem VR.cells {ρ : Rho} {x : AV} {y : Value} (h : VR ren ρ x y) (h1 : x.one = true) : y.cells = #[y] := by
  cases h <;> first | rfl | simp [AV.one] at h1

/-- The cells of a value that is no tuple. -/
theorem VR.flat {ρ : Rho} {x : AV} {y : Value} (h : VR ren ρ x y) (hne : x.flat ≠ []) : VRL ren ρ x.flat y.cells.toList ∧ ∀ u ∈ x.flat, u.one = true := by
  cases h with
  | agg hl h1 h => exact ⟨⟨by simpa [AV.flat, Value.cells] using hl, fun j u v hu hv => h j u v hu (by simpa [Value.cells] using hv)⟩, h1⟩
  | tup => simp [AV.flat] at hne
  | b x => exact ⟨(VRL.nil ρ).cons (.b x), by simp [AV.flat, AV.one]⟩
  | i k n => exact ⟨(VRL.nil ρ).cons (.i k n), by simp [AV.flat, AV.one]⟩
  | str s => exact ⟨(VRL.nil ρ).cons (.str s), by simp [AV.flat, AV.one]⟩
  | nilp => exact ⟨(VRL.nil ρ).cons .nilp, by simp [AV.flat, AV.one]⟩
  | ptr h => exact ⟨(VRL.nil ρ).cons (.ptr h), by simp [AV.flat, AV.one]⟩
  | nils => exact ⟨(VRL.nil ρ).cons .nils, by simp [AV.flat, AV.one]⟩
  | slx h hl ho => exact ⟨(VRL.nil ρ).cons (.slx h hl ho), by simp [AV.flat, AV.one]⟩
  | slo h hl hz ho => exact ⟨(VRL.nil ρ).cons (.slo h hl hz ho), by simp [AV.flat, AV.one]⟩
  | nilm => exact ⟨(VRL.nil ρ).cons .nilm, by simp [AV.flat, AV.one]⟩
  | mp h => exact ⟨(VRL.nil ρ).cons (.mp h), by simp [AV.flat, AV.one]⟩
  | nilf => exact ⟨(VRL.nil ρ).cons .nilf, by simp [AV.flat, AV.one]⟩
  | fn hf hl h => exact ⟨(VRL.nil ρ).cons (.fn hf hl h), by simp [AV.flat, AV.one]⟩
  | nili => exact ⟨(VRL.nil ρ).cons .nili, by simp [AV.flat, AV.one]⟩

/-! Constants. -/

theorem cvS_one {v : Value} {x : AV} (h : cvS v = some x) : x.one = true := by
  unfold cvS at h
  split at h <;> (try injection h with h; subst h; rfl) <;> cases h
theorem cvS_rel (ρ : Rho) {v : Value} {x : AV} (h : cvS v = some x) : VR ren ρ x v := by
  unfold cvS at h
  split at h <;> (try injection h with h) <;> (try subst h)
  · exact .b _
  · exact .i _ _
  · exact .str _
  · exact .nilp
  · exact .nils
  · exact .nilm
  · exact .nilf
  · exact .nili
  · cases h
theorem cvL_rel (ρ : Rho) : ∀ {l : List Value} {x : List AV}, cvL l = some x → VRL ren ρ x l ∧ ∀ u ∈ x, u.one = true := by
  intro l
  induction l with
  | nil => intro x h; simp [cvL] at h; subst h; exact ⟨VRL.nil ρ, by simp⟩
  | cons v r ih =>
    intro x h
    simp only [cvL] at h
    split at h
    · rename_i a b ha hb
      injection h with h; subst h
      obtain ⟨h1, h2⟩ := ih hb
      refine ⟨h1.cons (cvS_rel ρ ha), fun u hu => ?_⟩
      cases hu with
      | head => exact cvS_one ha
      | tail _ hu => exact h2 u hu
    · cases h
theorem cv_rel (ρ : Rho) {v : Value} {x : AV} (h : cv v = some x) : VR ren ρ x v := by
  unfold cv at h
  split at h
  · rename_i cs
    split at h
    · rename_i l hl
      injection h with h; subst h
      obtain ⟨h1, h2⟩ := cvL_rel (ren := ren) ρ hl
      exact .agg (by simpa using h1.1) h2 (fun j a b ha hb => h1.2 j a b ha (by simpa using hb))
    · cases h
  · rename_i cs
    split at h
    · rename_i l hl
      injection h with h; subst h
      obtain ⟨h1, _⟩ := cvL_rel (ren := ren) ρ hl
      exact .tup (by simpa using h1.1) (fun j a b ha hb => h1.2 j a b ha (by simpa using hb))
    · cases h
  · exact cvS_rel ρ h

/-! Objects and memory. -/

variable (ren)

def OR (ρ : Rho) (B0 : Nat) (w : World) (e : RM) : AO → Prop
  | .cells rw vs => ∃ c el fz, w.heap[e.blk]? = some (.cells c el fz) ∧ c.size = e.sz ∧ e.sh + vs.length ≤ e.sz ∧
      (∀ (j : Nat) (x : AV), vs[j]? = some x → ∃ y, c[e.sh + j]? = some y ∧ VR ren ρ x y ∧ x.one = true) ∧ (rw = true → fz = (0, 0) ∧ B0 ≤ e.blk)
  | .map es => ∃ en ck, w.heap[e.blk]? = some (.map en ck) ∧ B0 ≤ e.blk ∧ es.length = en.size ∧ ∀ (j : Nat) (k v : AV) (x : MapEntry), es[j]? = some (k, v) → en[j]? = some x → VR ren ρ k x.key ∧ VR ren ρ v x.val
  | .dead => True

def AO.live : AO → Bool
  | .dead => false
  | _ => true
/-- May it be written? -/
def AO.wr : AO → Bool
  | .cells rw _ => rw
  | .map _ => true
  | .dead => false

structure HR (ρ : Rho) (B0 : Nat) (h : AH) (w : World) : Prop where
  base : B0 ≤ w.heap.size
  obj : ∀ i o, h.get i = some o → o.live = true → ∃ e, ρ i = some e ∧ OR ren ρ B0 w e o
  dist : ∀ i j o o' e e', i ≠ j → h.get i = some o → h.get j = some o' → o.wr = true → o'.live = true → ρ i = some e → ρ j = some e' → e.blk ≠ e'.blk

/-- What has become of memory when an operation was run. -/
structure Post (ρ : Rho) (B0 : Nat) (h : AH) (w : World) (ρ' : Rho) (h' : AH) (w' : World) : Prop where
  le : ρ.le ρ'
  dom : ∀ i, ρ' i ≠ ρ i → h.n ≤ i ∧ i < h'.n
  rel : HR ren ρ' B0 h' w'
  n : h.n ≤ h'.n
  hid : h'.hid = h.hid
  wm : h'.wm ≤ h.wm
  keep : ∀ i, i < h.n → i < h'.wm → h'.os.get i = h.os.get i
  old : ∀ i o, i < h.n → h'.get i = some o → o.wr = true → ∃ o', h.get i = some o' ∧ o'.wr = true
  os : w'.os = w.os
  tape : w'.tape = w.tape
  output : w'.output = w.output
  drw : w.drawn ≤ w'.drawn
  size : w.heap.size ≤ w'.heap.size
  frame : ∀ b, b < w.heap.size → (∀ i o e, h.get i = some o → o.wr = true → ρ i = some e → e.blk ≠ b) → w'.heap[b]? = w.heap[b]?
  new : ∀ i o, h.n ≤ i → h'.get i = some o → o.wr = true → ∃ e, ρ' i = some e ∧ (w.heap.size ≤ e.blk ∨ ∃ j o' e', h.get j = some o' ∧ o'.wr = true ∧ ρ j = some e' ∧ e'.blk = e.blk)

variable {ren}

theorem AO.live_of_wr {o : AO} (h : o.wr = true) : o.live = true := by cases o <;> simp_all [AO.wr, AO.live]

theorem Rho.le_refl (ρ : Rho) : ρ.le ρ := fun _ _ h => h
theorem Rho.le_trans {a b c : Rho} (h : a.le b) (k : b.le c) : a.le c := fun i e he => k i e (h i e he)

theorem OR.blk_lt {ρ : Rho} {B0 : Nat} {w : World} {e : RM} {o : AO} (h : OR ren ρ B0 w e o) (hl : o.live = true) : e.blk < w.heap.size := by
  cases o with
  | cells rw vs => obtain ⟨c, el, fz, hh, _⟩ := h; exact (Array.getElem?_eq_some_iff.1 hh).1
  | map es => obtain ⟨en, ck, hh, _⟩ := h; exact (Array.getElem?_eq_some_iff.1 hh).1
  | dead => simp [AO.live] at hl

theorem OR.of_block {ρ ρ' : Rho} {B0 : Nat} {w w' : World} {e : RM} {o : AO} (hle : ρ.le ρ') (h : OR ren ρ B0 w e o) (hb : w'.heap[e.blk]? = w.heap[e.blk]?) : OR ren ρ' B0 w' e o := by
  cases o with
  | cells rw vs =>
    obtain ⟨c, el, fz, hh, h1, h2, h3, h4⟩ := h
    exact ⟨c, el, fz, hb.trans hh, h1, h2, fun j x hx => let ⟨y, a, b, d⟩ := h3 j x hx; ⟨y, a, b.mono hle, d⟩, h4⟩
  | map es =>
    obtain ⟨en, ck, hh, h1, h2, h3⟩ := h
    exact ⟨en, ck, hb.trans hh, h1, h2, fun j k v x hx hy => let ⟨a, b⟩ := h3 j k v x hx hy; ⟨a.mono hle, b.mono hle⟩⟩
  | dead => trivial

theorem Post.refl {ρ : Rho} {B0 : Nat} {h : AH} {w : World} (hr : HR ren ρ B0 h w) : Post ren ρ B0 h w ρ h w :=
  { le := ρ.le_refl, dom := fun i hi => absurd rfl hi, rel := hr, n := Nat.le_refl _, hid := rfl, wm := Nat.le_refl _, keep := fun _ _ _ => rfl, old := fun i o _ hg hw => ⟨o, hg, hw⟩,
    os := rfl, tape := rfl, output := rfl, drw := Nat.le_refl _, size := Nat.le_refl _, frame := fun _ _ _ => rfl,
    new := fun i o _ hg hw => by
      obtain ⟨e, he, _⟩ := hr.obj i o hg (AO.live_of_wr hw)
      exact ⟨e, he, .inr ⟨i, o, e, hg, hw, he, rfl⟩⟩ }

/-- The same memory, but for what a draw changes. -/
theorem HR.of_heap {ρ : Rho} {B0 : Nat} {h : AH} {w w' : World} (hr : HR ren ρ B0 h w) (hh : w'.heap = w.heap) : HR ren ρ B0 h w' :=
  ⟨by rw [hh]; exact hr.base, fun i o hg hl => let ⟨e, he, ho⟩ := hr.obj i o hg hl; ⟨e, he, ho.of_block (Rho.le_refl ρ) (by rw [hh])⟩, hr.dist⟩

/-! The tree. -/

theorem Tr.get_nil {α : Type} (n : Nat) : (Tr.nil : Tr α).get n = none := rfl

theorem Tr.get_setF {α : Type} (a : α) : ∀ (f : Nat) (t : Tr α) (n m : Nat), n < f → (Tr.setF f t n a).get m = if m = n then some a else t.get m := by
  intro f
  induction f with
  | zero => intro t n m h; omega
  | succ f ih =>
    intro t n m h
    have key : ∀ (v : Option α) (l r : Tr α), (match n with
        | 0 => Tr.nd (some a) l r
        | k + 1 => match Nat.mod k 2 with
          | 0 => Tr.nd v (Tr.setF f l (Nat.div k 2) a) r
          | _ + 1 => Tr.nd v l (Tr.setF f r (Nat.div k 2) a)).get m = if m = n then some a else (Tr.nd v l r).get m := by
      intro v l r
      cases n with
      | zero =>
        cases m with
        | zero => rfl
        | succ m => simp [Tr.get]
      | succ n =>
        have hlt : Nat.div n 2 < f := by show n / 2 < f; omega
        cases m with
        | zero =>
          rcases hn : Nat.mod n 2 with _ | q <;> simp [Tr.get, hn]
        | succ m =>
          have hn2 : Nat.mod n 2 = n % 2 := rfl
          have hm2 : Nat.mod m 2 = m % 2 := rfl
          have hnd : Nat.div n 2 = n / 2 := rfl
          have hmd : Nat.div m 2 = m / 2 := rfl
          rcases hn : Nat.mod n 2 with _ | q <;> rcases hm : Nat.mod m 2 with _ | s <;> simp only [Tr.get, hn, hm]
          · rw [ih _ _ _ hlt]
            by_cases e : m = n
            · subst e; simp
            · rw [if_neg (by omega), if_neg (by omega)]
          · rw [if_neg (by intro e; have : m = n := by omega
                           subst this; omega)]
          · rw [if_neg (by intro e; have : m = n := by omega
                           subst this; omega)]
          · rw [ih _ _ _ hlt]
            by_cases e : m = n
            · subst e; simp
            · rw [if_neg (by omega), if_neg (by omega)]
    cases t with
    | nil =>
      have := key none .nil .nil
      cases n with
      | zero =>
        cases m with
        | zero => rfl
        | succ m => rcases hm : Nat.mod m 2 with _ | s <;> simp [Tr.setF, Tr.get, hm]
      | succ n =>
        refine Eq.trans this ?_
        congr 1
        cases m with
        | zero => rfl
        | succ m => rcases hm : Nat.mod m 2 with _ | s <;> simp [Tr.get, hm]
    | nd v l r => exact key v l r

theorem Tr.get_set {α : Type} (t : Tr α) (n : Nat) (a : α) (m : Nat) : (t.set n a).get m = if m = n then some a else t.get m :=
  Tr.get_setF a (n + 1) t n m (Nat.lt_succ_self n)

theorem AH.get_add (h : AH) (o : AO) (i : Nat) : (h.add o).get i = if i = h.n then (bif zca h.hid i then none else some o) else h.get i := by
  simp only [AH.get, AH.add, Tr.get_set]
  by_cases e : i = h.n
  · simp [e]
  · simp [e]
theorem AH.get_put (h : AH) (k : Nat) (o : AO) (i : Nat) : (h.put k o).get i = if i = k then (bif zca h.hid i then none else some o) else h.get i := by
  simp only [AH.get, AH.put, Tr.get_set]
  by_cases e : i = k
  · simp [e]
  · simp [e]
theorem AH.hid_of_get {h : AH} {i : Nat} {o : AO} (hg : h.get i = some o) : zca h.hid i = false := by
  unfold AH.get at hg
  cases hh : zca h.hid i with
  | false => rfl
  | true => simp [hh] at hg
theorem AH.os_of_get {h : AH} {i : Nat} {o : AO} (hg : h.get i = some o) : h.os.get i = some o := by
  have := AH.hid_of_get hg
  simpa [AH.get, this] using hg

theorem Rho.upd_same (ρ : Rho) (i : Nat) (e : RM) : ρ.upd i e i = some e := by simp [Rho.upd]
theorem Rho.upd_other (ρ : Rho) {i j : Nat} (e : RM) (h : j ≠ i) : ρ.upd i e j = ρ j := by simp [Rho.upd, h]
theorem Rho.le_upd {ρ : Rho} {i : Nat} (e : RM) (h : ρ i = none) : ρ.le (ρ.upd i e) := fun j x hx => by
  by_cases c : j = i
  · subst c; rw [h] at hx; cases hx
  · rw [Rho.upd_other ρ e c]; exact hx

theorem Post.trans {ρ ρ1 ρ2 : Rho} {B0 : Nat} {h h1 h2 : AH} {w w1 w2 : World} (p : Post ren ρ B0 h w ρ1 h1 w1) (q : Post ren ρ1 B0 h1 w1 ρ2 h2 w2) : Post ren ρ B0 h w ρ2 h2 w2 := by
  have same : ∀ i, i < h.n → ρ1 i = ρ i := fun i hi => Classical.byContradiction fun c => by have := p.dom i c; omega
  have same2 : ∀ i, i < h1.n → ρ2 i = ρ1 i := fun i hi => Classical.byContradiction fun c => by have := q.dom i c; omega
  have back : ∀ i o e, h1.get i = some o → o.wr = true → ρ1 i = some e → w.heap.size ≤ e.blk ∨ ∃ j o' e', h.get j = some o' ∧ o'.wr = true ∧ ρ j = some e' ∧ e'.blk = e.blk := fun i o e hg hw he => by
    rcases Nat.lt_or_ge i h.n with hi | hi
    · obtain ⟨o', hg', hw'⟩ := p.old i o hi hg hw
      exact .inr ⟨i, o', e, hg', hw', by rw [← same i hi]; exact he, rfl⟩
    · obtain ⟨e1, he1, h1⟩ := p.new i o hi hg hw
      rw [he] at he1; injection he1 with he1; subst he1
      exact h1
  exact {
    le := Rho.le_trans p.le q.le
    dom := fun i hi => by
      by_cases c : ρ1 i = ρ i
      · have := q.dom i (by rw [c]; exact hi); have := p.n; omega
      · have := p.dom i c; have := q.n; omega
    rel := q.rel
    n := Nat.le_trans p.n q.n
    hid := q.hid.trans p.hid
    wm := Nat.le_trans q.wm p.wm
    keep := fun i hi hm => (q.keep i (by have := p.n; omega) hm).trans (p.keep i hi (by have := q.wm; omega))
    old := fun i o hi hg hw => by
      obtain ⟨o1, hg1, hw1⟩ := q.old i o (by have := p.n; omega) hg hw
      exact p.old i o1 hi hg1 hw1
    os := q.os.trans p.os
    tape := q.tape.trans p.tape
    output := q.output.trans p.output
    drw := Nat.le_trans p.drw q.drw
    size := Nat.le_trans p.size q.size
    frame := fun b hb hn => by
      refine (q.frame b (by have := p.size; omega) fun i o e hg hw he hbe => ?_).trans (p.frame b hb hn)
      rcases back i o e hg hw he with h' | ⟨j, o', e', a, b', c, d⟩
      · omega
      · exact hn j o' e' a b' c (d.trans hbe)
    new := fun i o hi hg hw => by
      rcases Nat.lt_or_ge i h1.n with h' | h'
      · obtain ⟨o1, hg1, hw1⟩ := q.old i o h' hg hw
        obtain ⟨e, he, hx⟩ := p.new i o1 hi hg1 hw1
        exact ⟨e, by rw [same2 i h']; exact he, hx⟩
      · obtain ⟨e, he, hx⟩ := q.new i o h' hg hw
        refine ⟨e, he, ?_⟩
        rcases hx with hx | ⟨j, o', e', a, b, c, d⟩
        · exact .inl (by have := p.size; omega)
        · rcases back j o' e' a b c with hy | ⟨j2, o2, e2, a2, b2, c2, d2⟩
          · exact .inl (by omega)
          · exact .inr ⟨j2, o2, e2, a2, b2, c2, d2.trans d⟩ }

theorem bmin (m k : Nat) : (bif Nat.ble m k then m else k) ≤ m ∧ (bif Nat.ble m k then m else k) ≤ k := by
  cases c : Nat.ble m k with
  | true => exact ⟨Nat.le_refl _, Nat.le_of_ble_eq_true c⟩
  | false => have := Nat.not_le_of_not_ble_eq_true (n := m) (m := k) (by simp [c]); simp only [cond_false]; omega

/-- A new object in a new block. -/
theorem Post.add {ρ : Rho} {B0 : Nat} {h : AH} {w : World} (hr : HR ren ρ B0 h w) (hf : ρ h.n = none) (o : AO) (ob : Obj) (sh sz : Nat)
    (ho : OR ren (ρ.upd h.n ⟨w.heap.size, sh, sz⟩) B0 (w.alloc ob) ⟨w.heap.size, sh, sz⟩ o) :
    Post ren ρ B0 h w (ρ.upd h.n ⟨w.heap.size, sh, sz⟩) (h.add o) (w.alloc ob) := by
  have hle := Rho.le_upd (ρ := ρ) (i := h.n) ⟨w.heap.size, sh, sz⟩ hf
  have hsz : (w.alloc ob).heap.size = w.heap.size + 1 := Array.size_push ..
  have hold : ∀ b, b < w.heap.size → (w.alloc ob).heap[b]? = w.heap[b]? := fun b hb => Go.RowKit.Below.heap_alloc w ob b hb
  have hn : ∀ i o, h.get i = some o → o.live = true → i ≠ h.n := fun i o hg hl e => by
    obtain ⟨e', he', _⟩ := hr.obj i o hg hl
    rw [e, hf] at he'; cases he'
  exact {
    le := hle
    dom := fun i hi => by
      by_cases c : i = h.n
      · subst c; exact ⟨Nat.le_refl _, Nat.lt_succ_self _⟩
      · exact absurd (Rho.upd_other ρ _ c) hi
    rel := {
      base := by have := hr.base; omega
      obj := fun i o' hg hl => by
        rw [AH.get_add] at hg
        by_cases c : i = h.n
        · rw [if_pos c] at hg
          cases hh : zca h.hid i with
          | true => simp [hh] at hg
          | false =>
            simp [hh] at hg; subst hg
            exact ⟨_, by rw [c]; exact Rho.upd_same _ _ _, ho⟩
        · rw [if_neg c] at hg
          obtain ⟨e, he, hor⟩ := hr.obj i o' hg hl
          exact ⟨e, hle _ _ he, hor.of_block hle (hold _ (hor.blk_lt hl))⟩
      dist := fun i j o1 o2 e1 e2 hij hg1 hg2 hw1 hl2 he1 he2 => by
        rw [AH.get_add] at hg1 hg2
        by_cases c1 : i = h.n
        · have c2 : j ≠ h.n := fun c => hij (c1.trans c.symm)
          rw [if_neg c2] at hg2
          obtain ⟨e, he, hor⟩ := hr.obj j o2 hg2 hl2
          rw [Rho.upd_other ρ _ c2, he] at he2
          injection he2 with he2; subst he2
          rw [c1, Rho.upd_same] at he1; injection he1 with he1; subst he1
          have := hor.blk_lt hl2
          show w.heap.size ≠ _; omega
        · rw [if_neg c1] at hg1
          obtain ⟨e, he, hor⟩ := hr.obj i o1 hg1 (AO.live_of_wr hw1)
          rw [Rho.upd_other ρ _ c1, he] at he1
          injection he1 with he1; subst he1
          by_cases c2 : j = h.n
          · rw [c2, Rho.upd_same] at he2; injection he2 with he2; subst he2
            have := hor.blk_lt (AO.live_of_wr hw1)
            show _ ≠ w.heap.size; omega
          · rw [if_neg c2] at hg2
            rw [Rho.upd_other ρ _ c2] at he2
            exact hr.dist i j o1 o2 _ _ hij hg1 hg2 hw1 hl2 he he2 }
    n := Nat.le_succ _
    hid := rfl
    wm := Nat.le_refl _
    keep := fun i hi _ => by
      show (h.os.set h.n o).get i = _
      rw [Tr.get_set, if_neg (by omega)]
    old := fun i o' hi hg hw => by
      rw [AH.get_add, if_neg (by omega)] at hg
      exact ⟨o', hg, hw⟩
    os := rfl
    tape := rfl
    output := rfl
    drw := Nat.le_refl _
    size := by omega
    frame := fun b hb _ => hold b hb
    new := fun i o' hi hg hw => by
      rw [AH.get_add] at hg
      by_cases c : i = h.n
      · exact ⟨_, by rw [c]; exact Rho.upd_same _ _ _, .inl (Nat.le_refl _)⟩
      · rw [if_neg c] at hg
        obtain ⟨e, he, _⟩ := hr.obj i o' hg (AO.live_of_wr hw)
        exact ⟨e, hle _ _ he, .inr ⟨i, o', e, hg, hw, he, rfl⟩⟩ }

/-- An object is written (or given up) where it lies. -/
theorem Post.put {ρ : Rho} {B0 : Nat} {h : AH} {w w' : World} (hr : HR ren ρ B0 h w) {k : Nat} {o o' : AO} {e : RM} (hg : h.get k = some o) (hw : o.wr = true) (he : ρ k = some e)
    (hos : w'.os = w.os) (htape : w'.tape = w.tape) (hout : w'.output = w.output ∧ w'.drawn = w.drawn) (hsize : w'.heap.size = w.heap.size) (hoth : ∀ b, b ≠ e.blk → w'.heap[b]? = w.heap[b]?)
    (ho : OR ren ρ B0 w' e o') : Post ren ρ B0 h w ρ (h.put k o') w' :=
  have hk : ∀ i, i ≠ k → (h.put k o').get i = h.get i := fun i c => by rw [AH.get_put, if_neg c]
  have hkk : (h.put k o').get k = some o' := by rw [AH.get_put, if_pos rfl]; simp [AH.hid_of_get hg]
  { le := ρ.le_refl
    dom := fun i hi => absurd rfl hi
    rel := {
      base := by rw [hsize]; exact hr.base
      obj := fun i o1 hg1 hl => by
        by_cases c : i = k
        · subst c; rw [hkk] at hg1; injection hg1 with hg1; subst hg1; exact ⟨e, he, ho⟩
        · rw [hk i c] at hg1
          obtain ⟨e1, he1, hor⟩ := hr.obj i o1 hg1 hl
          exact ⟨e1, he1, hor.of_block ρ.le_refl (hoth _ (fun x => hr.dist k i o o1 e e1 (Ne.symm c) hg hg1 hw hl he he1 x.symm))⟩
      dist := fun i j o1 o2 e1 e2 hij hg1 hg2 hw1 hl2 he1 he2 => by
        by_cases c1 : i = k
        · have c2 : j ≠ k := fun c => hij (c1.trans c.symm)
          rw [hk j c2] at hg2
          subst c1
          exact hr.dist i j o o2 e1 e2 hij hg hg2 hw hl2 he1 he2
        · rw [hk i c1] at hg1
          by_cases c2 : j = k
          · subst c2
            exact hr.dist i j o1 o e1 e2 hij hg1 hg hw1 (AO.live_of_wr hw) he1 he2
          · rw [hk j c2] at hg2
            exact hr.dist i j o1 o2 e1 e2 hij hg1 hg2 hw1 hl2 he1 he2 }
    n := Nat.le_refl _
    hid := rfl
    wm := (bmin h.wm k).1
    keep := fun i _ hm => by
      have hm' : i < (bif Nat.ble h.wm k then h.wm else k) := hm
      show (h.os.set k o').get i = _
      rw [Tr.get_set]
      by_cases c : i = k
      · have := (bmin h.wm k).2; omega
      · rw [if_neg c]
    old := fun i o1 hi hg1 hw1 => by
      by_cases c : i = k
      · subst c; exact ⟨o, hg, hw⟩
      · rw [hk i c] at hg1; exact ⟨o1, hg1, hw1⟩
    os := hos
    tape := htape
    output := hout.1
    drw := Nat.le_of_eq hout.2.symm
    size := by omega
    frame := fun b _ hn => hoth b (fun x => hn k o e hg hw he x.symm)
    new := fun i o1 hi hg1 hw1 => by
      by_cases c : i = k
      · subst c; exact ⟨e, he, .inr ⟨i, o, e, hg, hw, he, rfl⟩⟩
      · rw [hk i c] at hg1
        obtain ⟨e1, he1, _⟩ := hr.obj i o1 hg1 (AO.live_of_wr hw1)
        exact ⟨e1, he1, .inr ⟨i, o1, e1, hg1, hw1, he1, rfl⟩⟩ }

/-- An object is given up, and a new one made where it lay. -/
theorem Post.kadd {ρ : Rho} {B0 : Nat} {h : AH} {w w' : World} (hr : HR ren ρ B0 h w) (hf : ρ h.n = none) {k : Nat} {o o' : AO} {e : RM} (hg : h.get k = some o) (hw : o.wr = true) (he : ρ k = some e) (sh sz : Nat)
    (hos : w'.os = w.os) (htape : w'.tape = w.tape) (hout : w'.output = w.output ∧ w'.drawn = w.drawn) (hsize : w'.heap.size = w.heap.size) (hoth : ∀ b, b ≠ e.blk → w'.heap[b]? = w.heap[b]?)
    (ho : OR ren (ρ.upd h.n ⟨e.blk, sh, sz⟩) B0 w' ⟨e.blk, sh, sz⟩ o') : Post ren ρ B0 h w (ρ.upd h.n ⟨e.blk, sh, sz⟩) ((h.put k .dead).add o') w' := by
  have hle := Rho.le_upd (ρ := ρ) (i := h.n) ⟨e.blk, sh, sz⟩ hf
  have hne : k ≠ h.n := fun c => by rw [c, hf] at he; cases he
  have hn : ∀ i o, h.get i = some o → o.live = true → i ≠ h.n := fun i o hg hl c => by
    obtain ⟨e', he', _⟩ := hr.obj i o hg hl
    rw [c, hf] at he'; cases he'
  have g : ∀ i o1, ((h.put k .dead).add o').get i = some o1 → o1.live = true → (i = h.n ∧ o1 = o') ∨ (i ≠ h.n ∧ i ≠ k ∧ h.get i = some o1) := fun i o1 hg1 hl => by
    rw [AH.get_add] at hg1
    by_cases c : i = (h.put k .dead).n
    · rw [if_pos c] at hg1
      cases hh : zca (h.put k .dead).hid i with
      | true => simp [hh] at hg1
      | false => simp [hh] at hg1; exact .inl ⟨c, hg1.symm⟩
    · rw [if_neg c, AH.get_put] at hg1
      by_cases c2 : i = k
      · rw [if_pos c2] at hg1
        cases hh : zca h.hid i with
        | true => simp [hh] at hg1
        | false => simp [hh] at hg1; subst hg1; simp [AO.live] at hl
      · rw [if_neg c2] at hg1; exact .inr ⟨c, c2, hg1⟩
  exact {
    le := hle
    dom := fun i hi => by
      by_cases c : i = h.n
      · subst c; exact ⟨Nat.le_refl _, Nat.lt_succ_self _⟩
      · exact absurd (Rho.upd_other ρ _ c) hi
    rel := {
      base := by rw [hsize]; exact hr.base
      obj := fun i o1 hg1 hl => by
        rcases g i o1 hg1 hl with ⟨c, rfl⟩ | ⟨c, c2, hg1⟩
        · exact ⟨_, by rw [c]; exact Rho.upd_same _ _ _, ho⟩
        · obtain ⟨e1, he1, hor⟩ := hr.obj i o1 hg1 hl
          exact ⟨e1, hle _ _ he1, hor.of_block hle (hoth _ (fun x => hr.dist k i o o1 e e1 (Ne.symm c2) hg hg1 hw hl he he1 x.symm))⟩
      dist := fun i j o1 o2 e1 e2 hij hg1 hg2 hw1 hl2 he1 he2 => by
        rcases g i o1 hg1 (AO.live_of_wr hw1) with ⟨c, _⟩ | ⟨c, ck, k1⟩
        · rw [c, Rho.upd_same] at he1; injection he1 with he1; subst he1
          rcases g j o2 hg2 hl2 with ⟨c2, _⟩ | ⟨c2, ck2, k2⟩
          · exact absurd (c.trans c2.symm) hij
          · rw [Rho.upd_other ρ _ c2] at he2
            exact hr.dist k j o o2 e e2 (Ne.symm ck2) hg k2 hw hl2 he he2
        · rw [Rho.upd_other ρ _ c] at he1
          rcases g j o2 hg2 hl2 with ⟨c2, _⟩ | ⟨c2, ck2, k2⟩
          · rw [c2, Rho.upd_same] at he2; injection he2 with he2; subst he2
            exact hr.dist i k o1 o e1 e ck k1 hg hw1 (AO.live_of_wr hw) he1 he
          · rw [Rho.upd_other ρ _ c2] at he2
            exact hr.dist i j o1 o2 e1 e2 hij k1 k2 hw1 hl2 he1 he2 }
    n := Nat.le_succ _
    hid := rfl
    wm := (bmin h.wm k).1
    keep := fun i hi hm => by
      have hm' : i < (bif Nat.ble h.wm k then h.wm else k) := hm
      show ((h.os.set k .dead).set h.n o').get i = _
      rw [Tr.get_set, if_neg (by omega), Tr.get_set]
      by_cases c : i = k
      · have := (bmin h.wm k).2; omega
      · rw [if_neg c]
    old := fun i o1 hi hg1 hw1 => by
      rcases g i o1 hg1 (AO.live_of_wr hw1) with ⟨c, _⟩ | ⟨_, _, hg1⟩
      · omega
      · exact ⟨o1, hg1, hw1⟩
    os := hos
    tape := htape
    output := hout.1
    drw := Nat.le_of_eq hout.2.symm
    size := by omega
    frame := fun b _ hn => hoth b (fun x => hn k o e hg hw he x.symm)
    new := fun i o1 hi hg1 hw1 => by
      rcases g i o1 hg1 (AO.live_of_wr hw1) with ⟨c, _⟩ | ⟨c, _, hg1⟩
      · exact ⟨⟨e.blk, sh, sz⟩, by rw [c]; exact Rho.upd_same _ _ _, .inr ⟨k, o, e, hg, hw, he, rfl⟩⟩
      · obtain ⟨e1, he1, _⟩ := hr.obj i o1 hg1 (AO.live_of_wr hw1)
        exact ⟨e1, hle _ _ he1, .inr ⟨i, o1, e1, hg1, hw1, he1, rfl⟩⟩ }

end
end Go.AM
end
section
/- Operations that leave memory alone: what the abstract machine computes is what the model computes. No condition but that the operation was compiled. -/
namespace Go.AM

section
variable (ren : FuncId → Option Nat)

/-- What the temporaries hold. -/
structure TR (ρ : Rho) (nt : Nat) (t : Tmps) (a : Act) : Prop where
  sz : nt ≤ a.tmps.size
  val : ∀ n, n < 512 → VR ren ρ (tget t (toSl n)) (a.tmps.getD n undef)

/-- An operation was run: what it yields and what has become of memory. -/
def Did (P : Program) (ρ : Rho) (B0 : Nat) (h : AH) (w : World) (s : Sem Next) (v : AV) (h' : AH) : Prop :=
  ∃ nx v' w' ρ', s.run P w = .ok nx w' ∧ (nx = .value v' ∨ (nx = .skip ∧ v' = undef)) ∧ VR ren ρ' v v' ∧ Post ren ρ B0 h w ρ' h' w'
end

section
variable {ren : FuncId → Option Nat} {P : Program} {ρ : Rho} {B0 nt : Nat} {h : AH} {w : World} {t : Tmps} {a : Act}

theorem Did.pure {s : Sem Next} {v : AV} {v' : Value} (hr : HR ren ρ B0 h w) (hs : s.run P w = .ok (.value v') w) (hv : VR ren ρ v v') : Did ren P ρ B0 h w s v h :=
  ⟨_, v', w, ρ, hs, .inl rfl, hv, Post.refl hr⟩

theorem TR.ev (ht : TR ren ρ nt t a) {x : Operand} {y : AX} (hx : cx ren x = some y) : VR ren ρ (y.ev t) (a.eval x) := by
  cases x with
  | tmp n =>
    simp only [cx] at hx
    cases hb : Nat.blt n 512 with
    | false => simp [hb] at hx
    | true =>
      simp [hb] at hx; subst hx
      exact ht.val n (by simpa [Nat.blt_eq] using hb)
  | const v =>
    simp only [cx] at hx
    split at hx
    · rename_i z hz; injection hx with hx; subst hx; exact cv_rel ρ hz
    · cases hx
  | global g => simp [cx] at hx
  | func f =>
    simp only [cx] at hx
    split at hx
    · rename_i g hg; injection hx with hx; subst hx
      exact .fn hg rfl (fun j x y hx _ => by simp at hx)
    · cases hx

theorem TR.evs (ht : TR ren ρ nt t a) : ∀ {l : List Operand} {ys : List AX}, cxs ren l = some ys → VRL ren ρ (evs t ys) (l.map a.eval)
  | [], ys, h => by simp [cxs] at h; subst h; exact VRL.nil ρ
  | x :: r, ys, h => by
    simp only [cxs] at h
    split at h
    · rename_i y l hy hl
      injection h with h; subst h
      exact (TR.evs ht hl).cons (ht.ev hy)
    · cases h

/-! Numbers. -/

theorem iEq_eq (x y : Int) : iEq x y = (x == y) := by
  cases x <;> cases y <;> simp only [iEq] <;> rw [Bool.eq_iff_iff] <;> simp <;> omega
theorem iLt_eq (x y : Int) : iLt x y = decide (x < y) := by
  cases x <;> cases y <;> simp only [iLt] <;> rw [Bool.eq_iff_iff] <;> simp [Nat.blt_eq] <;> omega
theorem kEq_eq (x y : IntKind) : kEq x y = decide (x = y) := by
  cases x <;> cases y <;> rfl
theorem wrap_ofNat (m : Nat) (h : m ≤ 9223372036854775807) : IntKind.i64.wrap (Int.ofNat m) = Int.ofNat m :=
  IntWalk.i64_in _ ⟨by have : (0 : Int) ≤ Int.ofNat m := Int.natCast_nonneg m
                       omega, by have : Int.ofNat m ≤ ((9223372036854775807 : Nat) : Int) := Int.ofNat_le.2 h
                                 exact this⟩
theorem wrap_negSucc (m : Nat) (h : m ≤ 9223372036854775807) : IntKind.i64.wrap (Int.negSucc m) = Int.negSucc m :=
  IntWalk.i64_in _ ⟨by omega, by omega⟩
theorem bif_either {α : Type} (b : Bool) {x y z : α} (h1 : b = true → x = z) (h2 : b = false → y = z) : (bif b then x else y) = z := by cases b <;> simp_all
theorem wrapQ_eq (k : IntKind) (n : Int) : wrapQ k n = k.wrap n := by
  cases k <;> try rfl
  cases n with
  | ofNat m => exact bif_either _ (fun hb => (wrap_ofNat m (Nat.le_of_ble_eq_true hb)).symm) (fun _ => rfl)
  | negSucc m => exact bif_either _ (fun hb => (wrap_negSucc m (Nat.le_of_ble_eq_true hb)).symm) (fun _ => rfl)

theorem VR.int_inv {k : IntKind} {n : Int} {y : Value} (h : VR ren ρ (.i k n) y) : y = .int k n := by cases h; rfl
theorem VR.bool_inv {n : Bool} {y : Value} (h : VR ren ρ (.b n) y) : y = .bool n := by cases h; rfl


theorem aBin_run {op : BinOp} {tt : TypeId} {x y v : AV} {x' y' : Value} (hx : VR ren ρ x x') (hy : VR ren ρ y y') (h : aBin op x y = some v) :
    ∃ v', (binOp op tt x' y').run P w = .ok v' w ∧ VR ren ρ v v' := by
  unfold aBin at h
  split at h
  · rename_i k m k' n
    have hx := hx.int_inv; have hy := hy.int_inv
    subst hx; subst hy
    split at h
    · -- shl
      cases hb : iLt n 0 with
      | true => simp [hb] at h
      | false =>
        simp [hb] at h; subst h
        rw [iLt_eq] at hb
        have hn : ¬ n < 0 := by simpa using hb
        exact ⟨_, by simp only [binOp, Op.shift, if_neg hn]; rfl, .i _ _⟩
    · cases hb : iLt n 0 with
      | true => simp [hb] at h
      | false =>
        simp [hb] at h; subst h
        rw [iLt_eq] at hb
        have hn : ¬ n < 0 := by simpa using hb
        exact ⟨_, by simp only [binOp, Op.shift, if_neg hn]; rfl, .i _ _⟩
    · rename_i h1 h2
      cases hk : kEq k k' with
      | false => simp [hk] at h
      | true =>
        rw [kEq_eq] at hk
        have hk : k = k' := by simpa using hk
        subst hk
        simp only [kEq_eq, decide_true, cond_true] at h
        cases op <;> simp only [intBin] at h <;> (try (exact absurd rfl h1)) <;> (try (exact absurd rfl h2))
        case add => injection h with h; subst h; exact ⟨_, by simp [binOp, Op.intArith] <;> rfl, by rw [wrapQ_eq]; exact .i _ _⟩
        case sub => injection h with h; subst h; exact ⟨_, by simp [binOp, Op.intArith] <;> rfl, by rw [wrapQ_eq]; exact .i _ _⟩
        case mul => injection h with h; subst h; exact ⟨_, by simp [binOp, Op.intArith] <;> rfl, by rw [wrapQ_eq]; exact .i _ _⟩
        case quo =>
          cases hz : iEq n 0 with
          | true => simp [hz] at h
          | false =>
            simp [hz] at h; subst h
            rw [iEq_eq] at hz
            have hn : ¬ n = 0 := by simpa using hz
            exact ⟨_, by simp [binOp, Op.intDiv, hn] <;> rfl, .i _ _⟩
        case rem =>
          cases hz : iEq n 0 with
          | true => simp [hz] at h
          | false =>
            simp [hz] at h; subst h
            rw [iEq_eq] at hz
            have hn : ¬ n = 0 := by simpa using hz
            exact ⟨_, by simp [binOp, Op.intDiv, hn] <;> rfl, .i _ _⟩
        case and => injection h with h; subst h; exact ⟨_, by simp [binOp, Op.intBits] <;> rfl, .i _ _⟩
        case or => injection h with h; subst h; exact ⟨_, by simp [binOp, Op.intBits] <;> rfl, .i _ _⟩
        case xor => injection h with h; subst h; exact ⟨_, by simp [binOp, Op.intBits] <;> rfl, .i _ _⟩
        case andNot => injection h with h; subst h; exact ⟨_, by simp [binOp, Op.intBits] <;> rfl, .i _ _⟩
        case eql => injection h with h; subst h; exact ⟨_, by simp [binOp, Op.intCmp] <;> rfl, by rw [iEq_eq]; exact .b _⟩
        case neq => injection h with h; subst h; exact ⟨_, by simp [binOp, Op.intCmp] <;> rfl, by rw [iEq_eq]; exact .b _⟩
        case lss => injection h with h; subst h; exact ⟨_, by simp [binOp, Op.intCmp] <;> rfl, by rw [iLt_eq]; exact .b _⟩
        case leq => injection h with h; subst h; exact ⟨_, by simp [binOp, Op.intCmp] <;> rfl, by rw [iLt_eq, show (!decide (n < m)) = decide (m ≤ n) from by rw [← decide_not]; congr 1; simp]; exact .b _⟩
        case gtr => injection h with h; subst h; exact ⟨_, by simp [binOp, Op.intCmp] <;> rfl, by rw [iLt_eq]; exact .b _⟩
        case geq => injection h with h; subst h; exact ⟨_, by simp [binOp, Op.intCmp] <;> rfl, by rw [iLt_eq, show (!decide (m < n)) = decide (m ≥ n) from by rw [← decide_not]; congr 1; simp]; exact .b _⟩
  · cases h

end
end Go.AM
end
section
/- Lists of cells: cutting, writing, filling. No condition. -/
namespace Go.AM

theorem dropN_spec {α : Type} : ∀ (n : Nat) (l r : List α), dropN n l = some r → n ≤ l.length ∧ r = l.drop n
  | 0, l, r, h => by simp [dropN] at h; subst h; simp
  | n + 1, [], r, h => by simp [dropN] at h
  | n + 1, x :: l, r, h => by
    simp only [dropN] at h
    obtain ⟨h1, h2⟩ := dropN_spec n l r h
    exact ⟨by simp; omega, by simp [h2]⟩
theorem takeN_spec {α : Type} : ∀ (n : Nat) (l r : List α), takeN n l = some r → n ≤ l.length ∧ r = l.take n
  | 0, l, r, h => by simp [takeN] at h; subst h; simp
  | n + 1, [], r, h => by simp [takeN] at h
  | n + 1, x :: l, r, h => by
    simp only [takeN] at h
    split at h
    · rename_i r' hr
      injection h with h; subst h
      obtain ⟨h1, h2⟩ := takeN_spec n l r' hr
      exact ⟨by simp; omega, by simp [h2]⟩
    · cases h
theorem cut_spec {α : Type} {off n : Nat} {l r : List α} (h : cut off n l = some r) : off + n ≤ l.length ∧ r.length = n ∧ ∀ j, j < n → r[j]? = l[off + j]? := by
  unfold cut at h
  split at h
  · rename_i q hq
    obtain ⟨h1, h2⟩ := dropN_spec _ _ _ hq
    obtain ⟨h3, h4⟩ := takeN_spec _ _ _ h
    subst h2; subst h4
    simp at h3
    refine ⟨by omega, by simp; omega, fun j hj => ?_⟩
    rw [List.getElem?_take_of_lt hj, List.getElem?_drop]
  · cases h
theorem splice_spec {α : Type} : ∀ (n : Nat) (xs l r : List α), splice n xs l = some r → n + xs.length ≤ l.length ∧ r.length = l.length ∧ ∀ j, r[j]? = if n ≤ j ∧ j < n + xs.length then xs[j - n]? else l[j]?
  | 0, [], l, r, h => by
    simp [splice] at h; subst h
    refine ⟨by simp, rfl, fun j => ?_⟩
    rw [if_neg (by simp)]
  | 0, x :: xs, [], r, h => by simp [splice] at h
  | 0, x :: xs, y :: l, r, h => by
    simp only [splice] at h
    split at h
    · rename_i r' hr
      injection h with h; subst h
      obtain ⟨h1, h2, h3⟩ := splice_spec 0 xs l r' hr
      refine ⟨by simp at h1 ⊢; omega, by simp [h2], fun j => ?_⟩
      cases j with
      | zero => simp
      | succ j =>
        simp only [List.getElem?_cons_succ, h3 j]
        by_cases c : j < xs.length
        · rw [if_pos (by omega), if_pos (by simp; omega)]; simp
        · rw [if_neg (by omega), if_neg (by simp; omega)]
    · cases h
  | n + 1, xs, [], r, h => by cases xs <;> simp [splice] at h
  | n + 1, xs, y :: l, r, h => by
    have h : (match splice n xs l with | some r => some (y :: r) | none => none) = some r := by cases xs <;> (simp only [splice] at h; exact h)
    split at h
    · rename_i r' hr
      injection h with h; subst h
      obtain ⟨h1, h2, h3⟩ := splice_spec n xs l r' hr
      refine ⟨by simp; omega, by simp [h2], fun j => ?_⟩
      cases j with
      | zero => rw [if_neg (by omega)]; simp
      | succ j =>
        simp only [List.getElem?_cons_succ, h3 j]
        by_cases c : n ≤ j ∧ j < n + xs.length
        · rw [if_pos c, if_pos (by omega)]; congr 1; omega
        · rw [if_neg c, if_neg (by omega)]
    · cases h

/-- Cells written one by one into a row. -/
theorem foldl_set (vs : List Value) : ∀ (i : Nat) (cs : Array Value) (off : Nat), off + i + vs.length ≤ cs.size →
    (((vs.zipIdx i).foldl (fun (cs : Array Value) (x : Value × Nat) => cs.setIfInBounds (off + x.2) x.1) cs).size = cs.size ∧
     ∀ j, ((vs.zipIdx i).foldl (fun (cs : Array Value) (x : Value × Nat) => cs.setIfInBounds (off + x.2) x.1) cs)[j]? = if off + i ≤ j ∧ j < off + i + vs.length then vs[j - (off + i)]? else cs[j]?) := by
  induction vs with
  | nil =>
    intro i cs off h
    refine ⟨rfl, fun j => ?_⟩
    rw [if_neg (by simp)]; rfl
  | cons v r ih =>
    intro i cs off h
    simp only [List.length_cons] at h
    obtain ⟨h1, h2⟩ := ih (i + 1) (cs.setIfInBounds (off + i) v) off (by simp; omega)
    simp only [List.zipIdx_cons, List.foldl_cons]
    refine ⟨by rw [h1]; simp, fun j => ?_⟩
    rw [h2 j, Array.getElem?_setIfInBounds]
    simp only [List.length_cons]
    by_cases c : off + i = j
    · subst c
      rw [if_neg (by omega), if_pos (by omega), if_pos (by omega)]
      simp
    · by_cases c2 : off + (i + 1) ≤ j ∧ j < off + (i + 1) + r.length
      · rw [if_pos c2, if_pos (by omega), show j - (off + i) = (j - (off + (i + 1))) + 1 from by omega]; simp
      · rw [if_neg c2, if_neg c, if_neg (by omega)]

section
variable {ren : FuncId → Option Nat} {P : Program} {ρ : Rho} {nt : Nat} {t : Tmps} {a : Act}

/-- What a list of cells is. -/
def CL (ren : FuncId → Option Nat) (ρ : Rho) (l : List AV) (c : List Value) : Prop := VRL ren ρ l c ∧ ∀ x ∈ l, x.one = true

theorem VRL.at {l : List AV} {c : List Value} (h : VRL ren ρ l c) {j : Nat} {x : AV} (hx : l[j]? = some x) : ∃ y, c[j]? = some y ∧ VR ren ρ x y := by
  have hj : j < c.length := by rw [← h.1]; exact (List.getElem?_eq_some_iff.1 hx).1
  exact ⟨c[j], List.getElem?_eq_getElem hj, h.2 j x _ hx (List.getElem?_eq_getElem hj)⟩

theorem CL.splice {l l' xs : List AV} {c c' ys : List Value} {off : Nat} (h : CL ren ρ l c) (hx : CL ren ρ xs ys) (hs : splice off xs l = some l')
    (hl : c'.length = c.length) (hc : ∀ j, c'[j]? = if off ≤ j ∧ j < off + ys.length then ys[j - off]? else c[j]?) : CL ren ρ l' c' := by
  obtain ⟨h1, h2, h3⟩ := splice_spec _ _ _ _ hs
  refine ⟨⟨by rw [h2, hl, h.1.1], fun j x y hj hy => ?_⟩, fun x hm => ?_⟩
  · rw [h3 j] at hj; rw [hc j, ← hx.1.1] at hy
    by_cases c0 : off ≤ j ∧ j < off + xs.length
    · rw [if_pos c0] at hj hy; exact hx.1.2 _ x y hj hy
    · rw [if_neg c0] at hj hy; exact h.1.2 _ x y hj hy
  · obtain ⟨j, hj⟩ := List.mem_iff_getElem?.1 hm
    rw [h3 j] at hj
    by_cases c0 : off ≤ j ∧ j < off + xs.length
    · rw [if_pos c0] at hj; exact hx.2 x (List.mem_of_getElem? hj)
    · rw [if_neg c0] at hj; exact h.2 x (List.mem_of_getElem? hj)

/-- Where parts go. -/
theorem fill_ok (place : Nat → Option (Nat × Nat)) (T : TypeId) (hpl : ∀ i o s, placeB P T i = some (o, s) → place i = some (o, s)) (ht : TR ren ρ nt t a) :
    ∀ (ps : List (Nat × Operand)) (qs : List (Nat × Nat × AX)) (l l' : List AV) (c : Array Value), cParts P ren T ps = some qs → fillA l t qs = some l' → CL ren ρ l c.toList →
      ∃ c', Instr.fill place c (ps.map fun (i, x) => (i, a.eval x)) = some c' ∧ CL ren ρ l' c'.toList
  | [], qs, l, l', c, hq, hf, hc => by
    simp [cParts] at hq; subst hq
    simp [fillA] at hf; subst hf
    exact ⟨c, rfl, hc⟩
  | (i, x) :: r, qs, l, l', c, hq, hf, hc => by
    simp only [cParts] at hq
    split at hq
    · rename_i o s y q hp hy hr
      injection hq with hq; subst hq
      simp only [fillA] at hf
      cases hb : Nat.beq (y.ev t).flat.length s with
      | false => simp [hb] at hf
      | true =>
        simp only [hb, cond_true] at hf
        split at hf
        · rename_i l1 hs
          have hv := ht.ev hy
          have hlen : (y.ev t).flat.length = s := Nat.eq_of_beq_eq_true hb
          have hs0 : 0 < s := by
            unfold placeB at hp
            split at hp <;> (try cases hp) <;> (split at hp <;> (try cases hp)) <;> (try (split at hp <;> (try cases hp))) <;> omega
          obtain ⟨hf1, hf2⟩ := hv.flat (by intro e; rw [e] at hlen; simp at hlen; omega)
          obtain ⟨hsp1, hsp2, _⟩ := splice_spec _ _ _ _ hs
          have hvs : (a.eval x).cells.size = s := by rw [← hlen, hf1.1]; simp
          have hcs : c.size = l.length := by rw [hc.1.1]; simp
          obtain ⟨g1, g2⟩ := foldl_set (a.eval x).cells.toList 0 c o (by simp; omega)
          have hfold : (a.eval x).cells.zipIdx.foldl (fun cs (cj : Value × Nat) => cs.setIfInBounds (o + cj.2) cj.1) c =
              ((a.eval x).cells.toList.zipIdx 0).foldl (fun (cs : Array Value) (x : Value × Nat) => cs.setIfInBounds (o + x.2) x.1) c := by
            rw [← Array.foldl_toList, Array.toList_zipIdx]
          have hcl : CL ren ρ l1 (((a.eval x).cells.toList.zipIdx 0).foldl (fun (cs : Array Value) (x : Value × Nat) => cs.setIfInBounds (o + x.2) x.1) c).toList :=
            CL.splice hc ⟨hf1, hf2⟩ hs (by simpa using g1) (fun j => by
              have := g2 j
              simpa using this)
          obtain ⟨c', k1, k2⟩ := fill_ok place T hpl ht r q l1 l' _ hr hf hcl
          refine ⟨c', ?_, k2⟩
          simp only [List.map_cons, Instr.fill, hpl i o s hp]
          rw [if_neg (by simp [hvs]; omega), hfold]
          exact k1
        · cases hf
    · cases hq
end
end Go.AM
end
section
/- Values held against each other. No condition. -/
namespace Go.AM

section
variable {ren : FuncId → Option Nat} {P : Program} {ρ : Rho} (w : World)

theorem sizeB_info {t : TypeId} {s : Nat} (h : sizeB P t = some s) : ∃ i, P.info? t = some i ∧ i.size = s := by
  unfold sizeB at h
  obtain ⟨i, hi, hs⟩ := Option.map_eq_some_iff.1 h
  exact ⟨i, hi, hs⟩
theorem run_sizeB {t : TypeId} {s : Nat} (h : sizeB P t = some s) (w : World) : (sizeOf t).run P w = .ok s w := by
  obtain ⟨i, hi, hs⟩ := sizeB_info h
  simp [sizeOf, typeInfo, hi, hs]
theorem cellsOf_sizeB {t : TypeId} {s : Nat} (h : sizeB P t = some s) : P.cellsOf t = s := by
  obtain ⟨i, hi, hs⟩ := sizeB_info h
  simp [Program.cellsOf, hi, hs]
theorem run_isAgg_int {e : TypeId} {k : IntKind} (he : P.underlying e = some (.int k)) : (isAgg e).run P w = .ok false w := by
  simp [isAgg, run_underlying he]
theorem run_part_int {e : TypeId} {k : IntKind} (he : P.underlying e = some (.int k)) (cs : Array Value) (off : Nat) (v : Value) (hv : cs[off]? = some v) : (part e cs off).run P w = .ok v w := by
  simp [part, run_isAgg_int w he, hv]

theorem keqs_items {d : Nat} {e : TypeId} {k : IntKind} (he : P.underlying e = some (.int k)) (xs ys : Array Value) : ∀ (l m : List AV) (off : Nat) (r : Bool), keq.keqs l m = some r →
    (∀ j x, l[j]? = some x → ∃ x', xs[off + j]? = some x' ∧ VR ren ρ x x') → (∀ j y, m[j]? = some y → ∃ y', ys[off + j]? = some y' ∧ VR ren ρ y y') →
    (Op.eqItems (d + 1) e 1 xs ys (List.range' off l.length)).run P w = .ok r w
  | [], [], off, r, h, hx, hy => by simp [keq.keqs] at h; subst h; simp [Op.eqItems]
  | [], _ :: _, off, r, h, hx, hy => by simp [keq.keqs] at h
  | x :: l, [], off, r, h, hx, hy => by cases x <;> simp [keq.keqs] at h
  | x :: l, y :: m, off, r, h, hx, hy => by
    obtain ⟨x', hx1, hx2⟩ := hx 0 x rfl
    obtain ⟨y', hy1, hy2⟩ := hy 0 y rfl
    cases x <;> (try (simp [keq.keqs] at h; done))
    cases y <;> (try (simp [keq.keqs] at h; done))
    rename_i k1 a k2 b
    have hx2 := hx2.int_inv; have hy2 := hy2.int_inv
    subst hx2; subst hy2
    simp only [keq.keqs, kEq_eq] at h
    by_cases hk : k1 = k2
    · subst hk
      simp only [decide_true, cond_true, iEq_eq] at h
      have px := run_part_int w he xs (off * 1) _ (by simpa using hx1)
      have py := run_part_int w he ys (off * 1) _ (by simpa using hy1)
      have pe := run_equalIn_int w d e k1 k a b he
      rw [List.length_cons, List.range'_succ]
      simp only [Op.eqItems, Sem.run_bind, px, py, pe, Result.andThen_ok]
      cases hb : (a == b) with
      | false => simp [hb] at h; subst h; simp
      | true =>
        simp only [hb, cond_true] at h
        simp only [Bool.not_true, Bool.false_eq_true, if_false]
        exact keqs_items he xs ys l m (off + 1) r h
          (fun j x hj => by obtain ⟨x', h1, h2⟩ := hx (j + 1) x (by simpa using hj); exact ⟨x', by rw [← h1]; congr 1; omega, h2⟩)
          (fun j x hj => by obtain ⟨x', h1, h2⟩ := hy (j + 1) x (by simpa using hj); exact ⟨x', by rw [← h1]; congr 1; omega, h2⟩)
    · simp [hk] at h

theorem keqs_fields {d : Nat} (xs ys : Array Value) : ∀ (fs : List Field) (l m : List AV) (off : Nat) (r : Bool), keq.keqs l m = some r → l.length = fs.length →
    (∀ j f, fs[j]? = some f → (∃ k, P.underlying f.type = some (.int k)) ∧ f.offset = off + j ∧ f.name ≠ "_") →
    (∀ j x, l[j]? = some x → ∃ x', xs[off + j]? = some x' ∧ VR ren ρ x x') → (∀ j y, m[j]? = some y → ∃ y', ys[off + j]? = some y' ∧ VR ren ρ y y') →
    (Op.eqFields (d + 1) xs ys fs).run P w = .ok r w
  | [], [], [], off, r, h, _, _, hx, hy => by simp [keq.keqs] at h; subst h; simp [Op.eqFields]
  | _, [], _ :: _, off, r, h, _, _, hx, hy => by simp [keq.keqs] at h
  | _, x :: l, [], off, r, h, _, _, hx, hy => by cases x <;> simp [keq.keqs] at h
  | [], x :: l, y :: m, off, r, h, hl, _, hx, hy => by simp at hl
  | f :: fs, [], [], off, r, h, hl, _, hx, hy => by simp at hl
  | f :: fs, x :: l, y :: m, off, r, h, hl, hf, hx, hy => by
    obtain ⟨x', hx1, hx2⟩ := hx 0 x rfl
    obtain ⟨y', hy1, hy2⟩ := hy 0 y rfl
    obtain ⟨⟨k, he⟩, ho, hn⟩ := hf 0 f rfl
    cases x <;> (try (simp [keq.keqs] at h; done))
    cases y <;> (try (simp [keq.keqs] at h; done))
    rename_i k1 a k2 b
    have hx2 := hx2.int_inv; have hy2 := hy2.int_inv
    subst hx2; subst hy2
    simp only [keq.keqs, kEq_eq] at h
    by_cases hk : k1 = k2
    · subst hk
      simp only [decide_true, cond_true, iEq_eq] at h
      have px := run_part_int w he xs f.offset _ (by rw [ho]; exact hx1)
      have py := run_part_int w he ys f.offset _ (by rw [ho]; exact hy1)
      have pe := run_equalIn_int w d f.type k1 k a b he
      simp only [Op.eqFields, if_pos hn, Sem.run_bind, px, py, pe, Result.andThen_ok]
      cases hb : (a == b) with
      | false => simp [hb] at h; subst h; simp
      | true =>
        simp only [hb, cond_true] at h
        simp only [Bool.not_true, Bool.false_eq_true, if_false]
        exact keqs_fields xs ys fs l m (off + 1) r h (by simpa using hl)
          (fun j f hj => by obtain ⟨h1, h2, h3⟩ := hf (j + 1) f (by simpa using hj); exact ⟨h1, by omega, h3⟩)
          (fun j x hj => by obtain ⟨x', h1, h2⟩ := hx (j + 1) x (by simpa using hj); exact ⟨x', by rw [← h1]; congr 1; omega, h2⟩)
          (fun j x hj => by obtain ⟨x', h1, h2⟩ := hy (j + 1) x (by simpa using hj); exact ⟨x', by rw [← h1]; congr 1; omega, h2⟩)
    · simp [hk] at h

/-- Rows of integers, held against each other. -/
theorem equal_ints {T : TypeId} {n : Nat} (hT : intsB P T = some n) {l m : List AV} {xs ys : Array Value} {r : Bool} (hl : l.length = n)
    (hx : VRL ren ρ l xs.toList) (hy : VRL ren ρ m ys.toList) (h : keq.keqs l m = some r) : (Op.equal T (.agg xs) (.agg ys)).run P w = .ok r w := by
  have hx' : ∀ j x, l[j]? = some x → ∃ x', xs[0 + j]? = some x' ∧ VR ren ρ x x' := fun j x hj => by obtain ⟨y, h1, h2⟩ := hx.at hj; exact ⟨y, by simpa using h1, h2⟩
  have hy' : ∀ j x, m[j]? = some x → ∃ x', ys[0 + j]? = some x' ∧ VR ren ρ x x' := fun j x hj => by obtain ⟨y, h1, h2⟩ := hy.at hj; exact ⟨y, by simpa using h1, h2⟩
  unfold intsB at hT
  split at hT
  · rename_i k e hu
    split at hT
    · rename_i kd he hs
      injection hT with hT; subst hT
      obtain ⟨i, hi, hi1⟩ := sizeB_info hs
      show (Op.equalIn 10000 T (.agg xs) (.agg ys)).run P w = _
      rw [show (10000 : Nat) = 9999 + 1 from rfl, run_equalIn_array w 9999 xs ys hu hi, cellsOf_sizeB hs, List.range_eq_range', ← hl]
      exact keqs_items w (d := 9998) he xs ys l m 0 r h hx' hy'
    · cases hT
  · rename_i fs hu
    cases hb : fs.toList.zipIdx.all (intField P) && !P.stoodInHeld T with
    | false => rw [hb] at hT; cases hT
    | true =>
      rw [hb] at hT
      simp at hT; subst hT
      simp only [Bool.and_eq_true, Bool.not_eq_true'] at hb
      obtain ⟨hall, hst⟩ := hb
      have hfo : P.fieldsOf T = fs := by simp [Program.fieldsOf, hu]
      show (Op.equalIn 10000 T (.agg xs) (.agg ys)).run P w = _
      rw [show (10000 : Nat) = 9999 + 1 from rfl, run_equalIn_struct w 9999 T xs ys (by rw [hfo]; exact hu) hst, hfo]
      refine keqs_fields w (d := 9998) xs ys fs.toList l m 0 r h (by simpa using hl) (fun j f hj => ?_) hx' hy'
      have := List.all_eq_true.1 hall (f, j) (by rw [List.mem_iff_getElem?]; exact ⟨j, by rw [List.getElem?_zipIdx, hj]; simp⟩)
      simp only [intField, Bool.and_eq_true, beq_iff_eq, bne_iff_ne, ne_eq] at this
      obtain ⟨h1, h2, h3⟩ := this
      refine ⟨?_, by omega, h3⟩
      split at h1
      · rename_i k hk _; exact ⟨k, hk⟩
      · cases h1
  · cases hT

theorem eqIn_bool (d : Nat) {T : TypeId} (hu : P.underlying T = some .bool) (a b : Bool) : (Op.equalIn (d + 1) T (.bool a) (.bool b)).run P w = .ok (a == b) w := by
  simp [Op.equalIn, run_underlying hu]
theorem eqIn_slice (d : Nat) {T e : TypeId} (hu : P.underlying T = some (.slice e)) (a b : Option Addr) (l c m k : Nat) (hn : a = none ∨ b = none) :
    (Op.equalIn (d + 1) T (.slice a l c) (.slice b m k)).run P w = .ok (a.isNone && b.isNone) w := by
  cases a <;> cases b <;> simp [Op.equalIn, run_underlying hu] at hn ⊢
theorem eqIn_map (d : Nat) {T k e : TypeId} (hu : P.underlying T = some (.map k e)) (a b : Option Nat) (hn : a = none ∨ b = none) :
    (Op.equalIn (d + 1) T (.map a) (.map b)).run P w = .ok (a.isNone && b.isNone) w := by
  cases a <;> cases b <;> simp [Op.equalIn, run_underlying hu] at hn ⊢
theorem eqIn_ptr (d : Nat) {T e : TypeId} (hu : P.underlying T = some (.pointer e)) (a b : Option Addr) (hn : a = none ∨ b = none) :
    (Op.equalIn (d + 1) T (.pointer a) (.pointer b)).run P w = .ok (a.isNone && b.isNone) w := by
  cases a <;> cases b <;> simp [Op.equalIn, run_underlying hu] at hn ⊢
theorem eqIn_func (d : Nat) {T : TypeId} {ps rs : Array TypeId} {v : Bool} (hu : P.underlying T = some (.func ps rs v)) (f : Fn) (a b : Array Value) :
    (Op.equalIn (d + 1) T .nilFunc .nilFunc).run P w = .ok true w ∧ (Op.equalIn (d + 1) T .nilFunc (.func f a b)).run P w = .ok false w ∧ (Op.equalIn (d + 1) T (.func f a b) .nilFunc).run P w = .ok false w := by
  simp [Op.equalIn, run_underlying hu]

/-- The guard and the operation, where the values are held against each other by their type. -/
theorem eq_of_equal {T : TypeId} {x y : Value} {r : Bool} (xo yo : Operand) (neg : Bool) (hg : (eqGuard (if neg then .neq else .eql) T xo yo x y).run P w = .ok () w)
    (hb : ∀ op, op = .eql ∨ op = .neq → binOp op T x y = (match op with | .eql => (do pure (.bool (← Op.equal T x y)) : Sem Value) | _ => do pure (.bool (!(← Op.equal T x y)))))
    (h : (Op.equalIn 10000 T x y).run P w = .ok r w) :
    (do eqGuard (if neg then .neq else .eql) T xo yo x y; binOp (if neg then .neq else .eql) T x y : Sem Value).run P w = .ok (.bool (if neg then !r else r)) w := by
  have h : (Op.equal T x y).run P w = .ok r w := h
  rw [Sem.run_bind, hg, Result.andThen_ok]
  cases neg
  · rw [if_neg (by simp), hb _ (.inl rfl)]
    simp [h]
  · rw [if_pos rfl, hb _ (.inr rfl)]
    simp [h]

def EqF (P : Program) (T : TypeId) : EqT → Prop
  | .bool => P.underlying T = some .bool
  | .slice => ∃ e, P.underlying T = some (.slice e)
  | .map => ∃ k e, P.underlying T = some (.map k e)
  | .ptr => ∃ e, P.underlying T = some (.pointer e)
  | .func => ∃ ps rs v, P.underlying T = some (.func ps rs v)
  | .ints n => intsB P T = some n ∧ P.eqGuardType P.depth T = false
  | _ => True

theorem eqB_inv {T : TypeId} {e : EqT} (hT : eqB P T = some e) : EqF P T e := by
  unfold eqB at hT
  split at hT
  · injection hT with hT; subst hT; assumption
  · injection hT with hT; subst hT; trivial
  · injection hT with hT; subst hT; trivial
  · injection hT with hT; subst hT; exact ⟨_, by assumption⟩
  · injection hT with hT; subst hT; exact ⟨_, by assumption⟩
  · injection hT with hT; subst hT; exact ⟨_, _, by assumption⟩
  · injection hT with hT; subst hT; exact ⟨_, _, _, by assumption⟩
  · split at hT
    · rename_i n hn
      cases hb : P.eqGuardType P.depth T with
      | true => simp [hb] at hT
      | false => simp [hb] at hT; subst hT; exact ⟨hn, hb⟩
    · cases hT
  · split at hT
    · rename_i n hn
      cases hb : P.eqGuardType P.depth T with
      | true => simp [hb] at hT
      | false => simp [hb] at hT; subst hT; exact ⟨hn, hb⟩
    · cases hT
  · cases hT

/-- '==' on data. -/
theorem aEq_run {T : TypeId} {e : EqT} (hT : eqB P T = some e) {x y : AV} {x' y' : Value} {r : Bool} (hx : VR ren ρ x x') (hy : VR ren ρ y y') (h : aEq e x y = some r) (xo yo : Operand) (neg : Bool) :
    (do eqGuard (if neg then .neq else .eql) T xo yo x' y'; binOp (if neg then .neq else .eql) T x' y' : Sem Value).run P w = .ok (.bool (if neg then !r else r)) w := by
  have hU := eqB_inv hT
  clear hT
  unfold aEq at h
  split at h
  · -- bool
    have hx := hx.bool_inv; have hy := hy.bool_inv; subst hx; subst hy
    injection h with h; subst h
    exact eq_of_equal w xo yo neg (by cases neg <;> rfl) (by rintro op (rfl | rfl) <;> rfl) (eqIn_bool w 9999 hU _ _)
  · rename_i k a k' b
    have hx := hx.int_inv; have hy := hy.int_inv; subst hx; subst hy
    rw [kEq_eq] at h
    by_cases hk : k = k'
    · subst hk
      simp only [decide_true, cond_true] at h
      injection h with h; subst h
      cases neg <;> simp [eqGuard, binOp, Op.intCmp, iEq_eq] <;> rfl
    · simp [hk] at h
  · -- strings
    cases hx; cases hy
    injection h with h; subst h
    cases neg <;> simp [eqGuard, binOp, Op.stringOp]
  · cases hx; cases hy; injection h with h; subst h
    obtain ⟨e, hu⟩ := hU
    exact eq_of_equal w xo yo neg (by cases neg <;> rfl) (by rintro op (rfl | rfl) <;> rfl) (eqIn_slice w 9999 hu _ _ _ _ _ _ (.inl rfl))
  · obtain ⟨e, hu⟩ := hU
    injection h with h; subst h
    cases hx; cases hy <;> exact eq_of_equal w xo yo neg (by cases neg <;> rfl) (by rintro op (rfl | rfl) <;> rfl) (eqIn_slice w 9999 hu _ _ _ _ _ _ (.inl rfl))
  · obtain ⟨e, hu⟩ := hU
    injection h with h; subst h
    cases hy; cases hx <;> exact eq_of_equal w xo yo neg (by cases neg <;> rfl) (by rintro op (rfl | rfl) <;> rfl) (eqIn_slice w 9999 hu _ _ _ _ _ _ (.inr rfl))
  · obtain ⟨k, e, hu⟩ := hU
    cases hx; cases hy; injection h with h; subst h
    exact eq_of_equal w xo yo neg (by cases neg <;> rfl) (by rintro op (rfl | rfl) <;> rfl) (eqIn_map w 9999 hu _ _ (.inl rfl))
  · obtain ⟨k, e, hu⟩ := hU
    cases hx; cases hy; injection h with h; subst h
    exact eq_of_equal w xo yo neg (by cases neg <;> rfl) (by rintro op (rfl | rfl) <;> rfl) (eqIn_map w 9999 hu _ _ (.inl rfl))
  · obtain ⟨k, e, hu⟩ := hU
    cases hx; cases hy; injection h with h; subst h
    exact eq_of_equal w xo yo neg (by cases neg <;> rfl) (by rintro op (rfl | rfl) <;> rfl) (eqIn_map w 9999 hu _ _ (.inr rfl))
  · obtain ⟨ps, rs, v, hu⟩ := hU
    cases hx; cases hy; injection h with h; subst h
    exact eq_of_equal w xo yo neg (by cases neg <;> rfl) (by rintro op (rfl | rfl) <;> rfl) (eqIn_func w 9999 hu (.func 0) #[] #[]).1
  · obtain ⟨ps, rs, v, hu⟩ := hU
    cases hx; cases hy; injection h with h; subst h
    exact eq_of_equal w xo yo neg (by cases neg <;> rfl) (by rintro op (rfl | rfl) <;> rfl) (eqIn_func w 9999 hu _ _ _).2.1
  · obtain ⟨ps, rs, v, hu⟩ := hU
    cases hx; cases hy; injection h with h; subst h
    exact eq_of_equal w xo yo neg (by cases neg <;> rfl) (by rintro op (rfl | rfl) <;> rfl) (eqIn_func w 9999 hu _ _ _).2.2
  · obtain ⟨k, hu⟩ := hU
    cases hx; cases hy; injection h with h; subst h
    exact eq_of_equal w xo yo neg (by cases neg <;> rfl) (by rintro op (rfl | rfl) <;> rfl) (eqIn_ptr w 9999 hu _ _ (.inl rfl))
  · obtain ⟨k, hu⟩ := hU
    cases hx; cases hy; injection h with h; subst h
    exact eq_of_equal w xo yo neg (by cases neg <;> rfl) (by rintro op (rfl | rfl) <;> rfl) (eqIn_ptr w 9999 hu _ _ (.inl rfl))
  · obtain ⟨k, hu⟩ := hU
    cases hx; cases hy; injection h with h; subst h
    exact eq_of_equal w xo yo neg (by cases neg <;> rfl) (by rintro op (rfl | rfl) <;> rfl) (eqIn_ptr w 9999 hu _ _ (.inr rfl))
  · rename_i n l m
    obtain ⟨hn, hgt⟩ := hU
    cases hb : Nat.beq l.length n && Nat.beq m.length n with
    | false => simp [hb] at h
    | true =>
      simp only [hb, cond_true] at h
      simp only [Bool.and_eq_true] at hb
      cases hx with
      | agg hl h1 hxs => cases hy with
        | agg hl' h1' hys =>
          refine eq_of_equal w xo yo neg ?_ (by rintro op (rfl | rfl) <;> rfl) (equal_ints w hn (Nat.eq_of_beq_eq_true hb.1) ⟨by simpa using hl, fun j x y hx hy => hxs j x y hx (by simpa using hy)⟩ ⟨by simpa using hl', fun j x y hx hy => hys j x y hx (by simpa using hy)⟩ h)
          cases neg <;> simp [eqGuard, hgt]
  · cases h

end
end Go.AM
end
section
/- Each operation that leaves memory alone. No condition but that it was compiled. -/
namespace Go.AM

section
variable {ren : FuncId → Option Nat} {P : Program} {ρ : Rho} {B0 nt : Nat} {h : AH} {w : World} {t : Tmps} {a : Act}

theorem bind_some {α β : Type} {x : Option α} {f : α → Option β} {b : β} (h : (x >>= f) = some b) : ∃ a, x = some a ∧ f a = some b := by
  cases x with
  | none => cases h
  | some a => exact ⟨a, rfl, h⟩

theorem addr_add (b o n : Nat) : (⟨b, o, none⟩ : Addr).add n = ⟨b, o + n, none⟩ := by
  unfold Addr.add
  split
  · subst_vars; rfl
  · rfl


theorem run_sliceBound {M y n : Nat} {v : AV} {v' : Value} {code : BoundsCode} (hb : bound M v = some n) (hM : M ≤ y) (hv : VR ren ρ v v') :
    (Instr.sliceBound v' y code).run P w = .ok n w ∧ n ≤ M := by
  unfold bound at hb
  split at hb
  · rename_i k m
    have hv := hv.int_inv; subst hv
    cases hc : Nat.ble m M with
    | false => simp [hc] at hb
    | true =>
      simp [hc] at hb; subst hb
      have hm := Nat.le_of_ble_eq_true hc
      refine ⟨?_, hm⟩
      have h1 : (0 : Int) ≤ Int.ofNat m ∧ Int.ofNat m ≤ (y : Int) := ⟨Int.natCast_nonneg m, Int.ofNat_le.2 (by omega)⟩
      simp only [Instr.sliceBound, asIntOf, Sem.run_bind, Sem.run_pure, Result.andThen_ok]
      rw [if_pos h1]
      rfl
  · cases hb

/-- An option of an operand. -/
theorem TR.evo (ht : TR ren ρ nt t a) {x : Option Operand} {y : Option AX} (hx : cxo ren x = some y) :
    (x = none ∧ y = none) ∨ ∃ u v, x = some u ∧ y = some v ∧ VR ren ρ (v.ev t) (a.eval u) := by
  cases x with
  | none => simp [cxo] at hx; exact .inl ⟨rfl, hx.symm⟩
  | some u =>
    simp only [cxo] at hx
    split at hx
    · rename_i v hv; injection hx with hx; subst hx; exact .inr ⟨u, v, rfl, rfl, ht.ev hv⟩
    · cases hx

def VRO (ren : FuncId → Option Nat) (ρ : Rho) (x : Option AV) (y : Option Value) : Prop := (x = none ∧ y = none) ∨ ∃ u v, x = some u ∧ y = some v ∧ VR ren ρ u v
theorem TR.vro (ht : TR ren ρ nt t a) {x : Option Operand} {y : Option AX} (hx : cxo ren x = some y) : VRO ren ρ (y.map (·.ev t)) (x.map a.eval) := by
  rcases ht.evo hx with ⟨rfl, rfl⟩ | ⟨u, v, rfl, rfl, h⟩
  · exact .inl ⟨rfl, rfl⟩
  · exact .inr ⟨_, _, rfl, rfl, h⟩

/-- The bounds of a slice of a slice. -/
theorem run_sliceBounds {len cap : Nat} (hlc : len ≤ cap) {lo hi mx : Option AV} {lo' hi' mx' : Option Value} (hlo : VRO ren ρ lo lo') (hhi : VRO ren ρ hi hi') (hmx : VRO ren ρ mx mx')
    {topM topH l hh m : Nat} (hm : mx = none ∧ m = cap ∨ mx ≠ none ∧ mxOf topM mx = some m ∧ topM ≤ cap)
    (hh' : hiOf topH len mx.isSome hi = some hh) (htop : topH ≤ m) (hl : loOf hh lo = some l) :
    (Instr.sliceBounds true len cap lo' hi' mx').run P w = .ok (l, hh, m) w ∧ l ≤ hh ∧ (hh ≤ topH ∨ hh = len ∧ mx = none) ∧ hh ≤ m ∧ m ≤ cap := by
  have e1 : ∃ n, m = n ∧ m ≤ cap ∧ (match mx' with | some v => Instr.sliceBound v cap (if true then .slice3Acap else .slice3Alen) | none => (pure cap : Sem Nat)).run P w = .ok n w := by
    rcases hmx with ⟨rfl, rfl⟩ | ⟨u, v, rfl, rfl, hv⟩
    · have hm : m = cap := by rcases hm with ⟨_, h⟩ | ⟨h, _⟩
                              · exact h
                              · exact absurd rfl h
      exact ⟨m, rfl, by omega, by subst hm; rfl⟩
    · obtain ⟨hb, hle⟩ : mxOf topM (some u) = some m ∧ topM ≤ cap := by rcases hm with ⟨h, _⟩ | ⟨_, h⟩
                                                                        · cases h
                                                                        · exact h
      obtain ⟨r1, r2⟩ := run_sliceBound (P := P) (w := w) (code := if true then .slice3Acap else .slice3Alen) hb hle hv
      exact ⟨m, rfl, by omega, r1⟩
  obtain ⟨_, rfl, hmc, e1⟩ := e1
  have e2 : (hh ≤ topH ∨ hh = len ∧ mx = none) ∧ hh ≤ m ∧ (match hi', mx' with
      | some v, some _ => Instr.sliceBound v m .slice3B
      | some v, none => Instr.sliceBound v m (if true then .sliceAcap else .sliceAlen)
      | none, none => (pure len : Sem Nat)
      | none, some _ => stuck "Slice: max without high").run P w = .ok hh w := by
    rcases hhi with ⟨rfl, rfl⟩ | ⟨u, v, rfl, rfl, hv⟩
    · rcases hmx with ⟨rfl, rfl⟩ | ⟨u, v, rfl, _, _⟩
      · have hm : m = cap := by rcases hm with ⟨_, h⟩ | ⟨h, _⟩
                                · exact h
                                · exact absurd rfl h
        simp [hiOf] at hh'; subst hm; subst hh'; exact ⟨.inr ⟨rfl, rfl⟩, hlc, rfl⟩
      · simp [hiOf] at hh'
    · have hb : bound topH u = some hh := hh'
      have hle := htop
      rcases hmx with ⟨rfl, rfl⟩ | ⟨u2, v2, rfl, rfl, _⟩
      · obtain ⟨r1, r2⟩ := run_sliceBound (P := P) (w := w) (code := if true then .sliceAcap else .sliceAlen) hb hle hv
        exact ⟨.inl r2, by omega, r1⟩
      · obtain ⟨r1, r2⟩ := run_sliceBound (P := P) (w := w) (code := .slice3B) hb hle hv
        exact ⟨.inl r2, by omega, r1⟩
  obtain ⟨hht, hhm, e2⟩ := e2
  have e3 : l ≤ hh ∧ (match lo' with | some v => Instr.sliceBound v hh (if mx'.isSome then .slice3C else .sliceB) | none => (pure 0 : Sem Nat)).run P w = .ok l w := by
    rcases hlo with ⟨rfl, rfl⟩ | ⟨u, v, rfl, rfl, hv⟩
    · simp [loOf] at hl; subst hl; exact ⟨Nat.zero_le _, rfl⟩
    · obtain ⟨r1, r2⟩ := run_sliceBound (P := P) (w := w) (y := hh) (code := if mx'.isSome then .slice3C else .sliceB) hl (Nat.le_refl _) hv
      exact ⟨r2, r1⟩
  obtain ⟨hlh, e3⟩ := e3
  refine ⟨?_, hlh, hht, hhm, hmc⟩
  clear hlo hhi hmx hm hh' hl hht
  unfold Instr.sliceBounds
  cases mx' <;> cases hi' <;> cases lo' <;> simp at e1 e2 e3 ⊢ <;> simp_all

end
end Go.AM
end
section
/- Slices, parts of values, tuples, least and greatest. No condition but that the operation was compiled. -/
namespace Go.AM

section
variable {ren : FuncId → Option Nat} {P : Program} {ρ : Rho} {B0 nt : Nat} {h : AH} {w : World} {t : Tmps} {a : Act}

theorem VRO.map_none {y : Option Value} (h : VRO ren ρ none y) : y = none := by
  rcases h with ⟨_, rfl⟩ | ⟨u, v, hu, _⟩
  · rfl
  · cases hu

/-- x[lo:hi:max] -/
theorem aSlice_run {T e : TypeId} {es : Nat} (hu : P.underlying T = some (.slice e)) (hs : sizeB P e = some es) {x v : AV} {x' : Value} (hx : VR ren ρ x x') {lo hi mx : Option AV} {lo' hi' mx' : Option Value}
    (hlo : VRO ren ρ lo lo') (hhi : VRO ren ρ hi hi') (hmx : VRO ren ρ mx mx') (hr : aSlice es x lo hi mx = some v) :
    ∃ v', (Instr.sliceAt T x' lo' hi' mx').run P w = .ok v' w ∧ VR ren ρ v v' := by
  have hat : (Instr.sliceAt T x' lo' hi' mx').run P w = (Instr.slice T x' lo' hi' mx').run P w := by
    simp [Instr.sliceAt, run_underlying hu]
  rw [hat]
  have some_of : ∀ {mx : Option AV}, mx.isSome = true → mx ≠ none := fun h e => by rw [e] at h; cases h
  -- a capacity that is known
  have fix : ∀ {id off len c o k topM : Nat} {e0 : RM} {v : AV} {given : Bool}, ρ id = some e0 → len ≤ c → (o = e0.sh + off ∨ c = 0) → given = mx.isSome → (mx = none ∧ k = c ∨ mx ≠ none ∧ mxOf topM mx = some k ∧ topM ≤ c) →
      aSliceK id off len es k lo hi given = some v → ∃ v', (Instr.slice T (.slice (some ⟨e0.blk, o, none⟩) len c) lo' hi' mx').run P w = .ok v' w ∧ VR ren ρ v v' := by
    intro id off len c o k topM e0 v given he hlc ho hgv hmk hr
    subst hgv
    unfold aSliceK at hr
    split at hr
    · rename_i hh hhh
      split at hr
      · rename_i l hl
        obtain ⟨g1, g2, _, g3, g4⟩ := run_sliceBounds (P := P) (w := w) (len := len) (cap := c) hlc hlo hhi hmx hmk hhh (Nat.le_refl _) hl
        injection hr with hr; subst hr
        refine ⟨_, by simp [Instr.slice, run_underlying hu, g1, run_sizeB hs]; rfl, ?_⟩
        by_cases hkl : k = l
        · subst hkl
          have : Nat.beq k k = true := Nat.beq_refl k
          simp only [this, cond_true, if_true, Nat.sub_self]
          exact .slx he (by omega) (.inr rfl)
        · have : Nat.beq k l = false := Bool.eq_false_iff.2 fun x => hkl (Nat.eq_of_beq_eq_true x)
          simp only [this, cond_false, if_neg hkl, addr_add]
          refine .slx he (by omega) ?_
          rcases ho with rfl | rfl
          · exact .inl (by omega)
          · omega
      · cases hr
    · cases hr
  unfold aSlice at hr
  split at hr
  · -- nil
    cases hx
    split at hr
    · rename_i m hm
      split at hr
      · rename_i hh hhh
        split at hr
        · rename_i l hl
          obtain ⟨g1, g2, _, g3, g4⟩ := run_sliceBounds (P := P) (w := w) (len := 0) (cap := 0) (Nat.le_refl _) hlo hhi hmx (topM := 0)
            (by cases mx with
                | none => simp [mxOf] at hm; exact .inl ⟨rfl, hm.symm⟩
                | some q => exact .inr ⟨by simp, hm, Nat.le_refl _⟩) hhh (Nat.le_refl _) hl
          injection hr with hr; subst hr
          have hm0 : m = 0 := by omega
          have hh0 : hh = 0 := by omega
          have hl0 : l = 0 := by omega
          subst hm0; subst hh0; subst hl0
          exact ⟨_, by simp [Instr.slice, run_underlying hu, g1, run_sizeB hs] <;> rfl, .nils⟩
        · cases hr
      · cases hr
    · cases hr
  · rename_i id off len cap es'
    cases hb : Nat.beq es es' with
    | false => simp [hb] at hr
    | true =>
      have he := Nat.eq_of_beq_eq_true hb
      subst he
      simp only [hb, cond_true] at hr
      cases hx with
      | slx he hlc ho =>
        simp only at hr
        split at hr
        · rename_i k hk
          exact fix (topM := _) he hlc ho rfl (by cases mx with
            | none => simp [mxOf] at hk; exact .inl ⟨rfl, hk.symm⟩
            | some q => exact .inr ⟨by simp, hk, Nat.le_refl _⟩) hr
        · cases hr
      | slo he hlc hz ho =>
        rename_i c o e0
        simp only at hr
        split at hr
        · rename_i vm
          split at hr
          · rename_i k hk
            exact fix (topM := len) he hlc ho rfl (.inr ⟨by simp, hk, hlc⟩) hr
          · cases hr
        · split at hr
          · rename_i hh hhh
            split at hr
            · rename_i l hl
              obtain ⟨g1, g2, g0, g3, g4⟩ := run_sliceBounds (P := P) (w := w) (len := len) (cap := c) (m := c) hlc hlo hhi hmx (topM := 0) (.inl ⟨rfl, rfl⟩) hhh hlc hl
              injection hr with hr; subst hr
              refine ⟨_, by simp [Instr.slice, run_underlying hu, g1, run_sizeB hs]; rfl, ?_⟩
              have hmul : l * es + (c - l) * es = c * es := by rw [← Nat.add_mul]; congr 1; omega
              by_cases hkl : c = l
              · subst hkl
                simp only [if_true, Nat.sub_self]
                exact .slo he (by omega) (by simp; omega) (.inr rfl)
              · simp only [if_neg hkl, addr_add]
                refine .slo he (by omega) (by omega) ?_
                rcases ho with rfl | rfl
                · exact .inl (by omega)
                · omega
            · cases hr
          · cases hr
  · cases hr

/-- Which values are aggregates is told by the type. -/
theorem run_aggB {T : TypeId} {b : Bool} (hu : aggB P T = some b) (w : World) : (isAgg T).run P w = .ok b w := by
  unfold aggB at hu
  split at hu <;> (try cases hu) <;> rename_i hu'
  · simp [isAgg, run_underlying hu']
  · simp [isAgg, run_underlying hu']
  · rename_i d _ _
    cases d <;> simp_all [isAgg, run_underlying hu']

end
end Go.AM
end
section
/- Memory read and written. No condition but that the operation was compiled. -/
namespace Go.AM

theorem setCells_heap (b : Nat) : ∀ (vs : List Value) (o : Nat) (w : World) (c : Array Value) (el : TypeId) (fz : Nat × Nat), w.heap[b]? = some (.cells c el fz) → o + vs.length ≤ c.size →
    ∃ c' : Array Value, (w.setCells b o vs).heap[b]? = some (.cells c' el fz) ∧ c'.size = c.size ∧ (∀ j, c'[j]? = if o ≤ j ∧ j < o + vs.length then vs[j - o]? else c[j]?)
  | [], o, w, c, el, fz, h, _ => ⟨c, h, rfl, fun j => by rw [if_neg (by simp)]⟩
  | v :: r, o, w, c, el, fz, h, hl => by
    simp only [List.length_cons] at hl
    have h1 : (w.setCell ⟨b, o, none⟩ v).heap[b]? = some (.cells (c.setIfInBounds o v) el fz) := by
      simp [World.setCell, Array.getElem?_modify, h]
    obtain ⟨c', g1, g2, g3⟩ := setCells_heap b r (o + 1) (w.setCell ⟨b, o, none⟩ v) _ el fz h1 (by simp; omega)
    refine ⟨c', g1, by rw [g2]; simp, fun j => ?_⟩
    rw [g3 j, Array.getElem?_setIfInBounds]
    simp only [List.length_cons]
    by_cases e : o = j
    · subst e
      rw [if_neg (by omega), if_pos rfl, if_pos (by omega), if_pos (by omega)]
      simp
    · by_cases e2 : o + 1 ≤ j ∧ j < o + 1 + r.length
      · rw [if_pos e2, if_pos (by omega), show j - o = (j - (o + 1)) + 1 from by omega]; simp
      · rw [if_neg e2, if_neg e, if_neg (by omega)]
theorem setCells_other (b : Nat) : ∀ (vs : List Value) (o : Nat) (w : World), (∀ k, k ≠ b → (w.setCells b o vs).heap[k]? = w.heap[k]?) ∧ (w.setCells b o vs).heap.size = w.heap.size ∧
    (w.setCells b o vs).os = w.os ∧ (w.setCells b o vs).tape = w.tape ∧ (w.setCells b o vs).output = w.output ∧ (w.setCells b o vs).drawn = w.drawn
  | [], o, w => ⟨fun _ _ => rfl, rfl, rfl, rfl, rfl, rfl⟩
  | v :: r, o, w => by
    obtain ⟨g1, g2, g3, g4, g5⟩ := setCells_other b r (o + 1) (w.setCell ⟨b, o, none⟩ v)
    refine ⟨fun k hk => (g1 k hk).trans (Go.RowKit.Below.heap_setCell w ⟨b, o, none⟩ v k hk), g2.trans (by simp [World.setCell]), g3, g4, g5⟩

section
variable {ren : FuncId → Option Nat} {P : Program} {ρ : Rho} {B0 nt : Nat} {h : AH} {w : World} {t : Tmps} {a : Act}

/-- Cells that are read. -/
theorem read_cells (hr : HR ren ρ B0 h w) {id : Nat} {rw_ : Bool} {vs l : List AV} (hg : h.get id = some (.cells rw_ vs)) {e : RM} (he : ρ id = some e) {off n : Nat} (hl : cut off n vs = some l) :
    ∃ cs : List Value, cs.length = n ∧ (∀ j v, cs[j]? = some v → w.cell? ((⟨e.blk, e.sh + off, none⟩ : Addr).add j) = some v) ∧ CL ren ρ l cs := by
  obtain ⟨e', he', c, el, fz, hh, hz, hsz, hv, _⟩ := hr.obj id _ hg rfl
  rw [he] at he'; injection he' with he'; subst he'
  obtain ⟨k1, k2, k3⟩ := cut_spec hl
  refine ⟨(c.toList.drop (e.sh + off)).take n, by simp; omega, fun j v hj => ?_, ⟨⟨by simp; omega, fun j x y hx hy => ?_⟩, fun x hx => ?_⟩⟩
  · have hjn : j < n := by have := (List.getElem?_eq_some_iff.1 hj).1; simp at this; omega
    rw [List.getElem?_take_of_lt hjn, List.getElem?_drop] at hj
    rw [addr_add]
    simpa [World.cell?, hh] using hj
  · have hjn : j < n := by have := (List.getElem?_eq_some_iff.1 hx).1; omega
    rw [k3 j hjn] at hx
    rw [List.getElem?_take_of_lt hjn, List.getElem?_drop] at hy
    obtain ⟨y', h1, h2, _⟩ := hv _ x hx
    have : y = y' := by
      have h1' : c.toList[e.sh + off + j]? = some y' := by simpa [Nat.add_assoc] using h1
      rw [h1'] at hy; injection hy with hy; exact hy.symm
    subst this; exact h2
  · obtain ⟨j, hj⟩ := List.mem_iff_getElem?.1 hx
    have hjn : j < n := by have := (List.getElem?_eq_some_iff.1 hj).1; omega
    rw [k3 j hjn] at hj
    obtain ⟨_, _, _, h3⟩ := hv _ x hj
    exact h3

theorem loadN_ok (hr : HR ren ρ B0 h w) {p : AV} {p' : Value} (hp : VR ren ρ p p') {n : Nat} {l : List AV} (hl : loadN h n p = some l) :
    ∃ ad cs, p' = .pointer (some ad) ∧ cs.length = n ∧ (∀ j v, cs[j]? = some v → w.cell? (ad.add j) = some v) ∧ CL ren ρ l cs := by
  unfold loadN at hl
  split at hl
  · cases hp with
    | ptr he =>
      split at hl
      · rename_i hg
        obtain ⟨cs, h1, h2, h3⟩ := read_cells hr hg he hl
        exact ⟨_, cs, rfl, h1, h2, h3⟩
      · cases hl
  · cases hl

theorem VRL.single {l : List AV} {cs : List Value} {x : AV} (hl : l = [x]) (h : VRL ren ρ l cs) : ∃ y, cs = [y] ∧ VR ren ρ x y := by
  subst hl
  obtain ⟨y, b, rfl, h1, h2⟩ := h.cons_inv
  cases b with
  | nil => exact ⟨y, rfl, h1⟩
  | cons _ _ => have := h2.1; simp at this

theorem run_load_one {ad : Addr} {y : Value} (h : ∀ j v, [y][j]? = some v → w.cell? (ad.add j) = some v) : (load ad).run P w = .ok y w := by
  have := h 0 y rfl
  simp [Addr.add] at this
  simp [this]

theorem CL.agg {l : List AV} {cs : List Value} (h : CL ren ρ l cs) : VR ren ρ (.agg l) (.agg cs.toArray) :=
  .agg (by simpa using h.1.1) h.2 (fun j x y hx hy => h.1.2 j x y hx (by simpa using hy))

/-- Cells that are written. -/
theorem write_cells (hr : HR ren ρ B0 h w) {id : Nat} {vs l vs' : List AV} (hg : h.get id = some (.cells true vs)) {e : RM} (he : ρ id = some e) {off : Nat} {ys : List Value} (hy : CL ren ρ l ys) (hs : splice off l vs = some vs') :
    (∀ j, j < ys.length → (w.cell? ⟨e.blk, e.sh + off + j, none⟩).isSome = true) ∧ (∀ j, j < ys.length → w.frozen? ⟨e.blk, e.sh + off + j, none⟩ = false) ∧ (∀ v ∈ ys, v.oneCell' = true) ∧
    Post ren ρ B0 h w ρ (h.put id (.cells true vs')) (w.setCells e.blk (e.sh + off) ys) := by
  obtain ⟨e', he', c, el, fz, hh, hz, hsz, hv, hrw⟩ := hr.obj id _ hg rfl
  rw [he] at he'; injection he' with he'; subst he'
  obtain ⟨k1, k2, k3⟩ := splice_spec _ _ _ _ hs
  have hll : l.length = ys.length := hy.1.1
  obtain ⟨hfz, hB⟩ := hrw rfl
  subst hfz
  have one : ∀ v ∈ ys, v.oneCell' = true := fun v hm => by
    obtain ⟨j, hj⟩ := List.mem_iff_getElem?.1 hm
    have hjl : j < l.length := by have := (List.getElem?_eq_some_iff.1 hj).1; omega
    exact (hy.1.2 j _ v (List.getElem?_eq_getElem hjl) hj).one (hy.2 _ (List.getElem_mem hjl))
  refine ⟨fun j hj => ?_, fun j hj => ?_, one, ?_⟩
  · have : e.sh + off + j < c.size := by omega
    simp [World.cell?, hh, this]
  · simp [World.frozen?, hh]
  · obtain ⟨g1, g2, g3, g4, g5⟩ := setCells_other e.blk ys (e.sh + off) w
    obtain ⟨c', q1, q2, q3⟩ := setCells_heap e.blk ys (e.sh + off) w c el (0, 0) hh (by omega)
    refine Post.put hr hg rfl he g3 g4 g5 g2 g1 ⟨c', el, (0, 0), q1, by omega, by omega, fun j x hx => ?_, fun _ => ⟨rfl, hB⟩⟩
    rw [k3 j] at hx
    rw [q3]
    by_cases cnd : off ≤ j ∧ j < off + l.length
    · rw [if_pos cnd] at hx
      rw [if_pos (by omega), show e.sh + j - (e.sh + off) = j - off from by omega]
      obtain ⟨y, hy1, hy2⟩ := hy.1.at hx
      exact ⟨y, hy1, hy2, hy.2 x (List.mem_of_getElem? hx)⟩
    · rw [if_neg cnd] at hx
      rw [if_neg (by omega)]
      exact hv j x hx

/-- A row of cells that is new. -/
theorem new_cells (hr : HR ren ρ B0 h w) (hf : ρ h.n = none) {l : List AV} {ys : List Value} (hy : CL ren ρ l ys) (el : TypeId) (more : List Value) :
    Post ren ρ B0 h w (ρ.upd h.n ⟨w.heap.size, 0, (ys ++ more).length⟩) (h.add (.cells true l)) (w.alloc (.cells (ys ++ more).toArray el)) := by
  have hle := Rho.le_upd (ρ := ρ) (i := h.n) ⟨w.heap.size, 0, (ys ++ more).length⟩ hf
  refine Post.add hr hf _ _ _ _ ⟨(ys ++ more).toArray, el, (0, 0), ?_, by simp, ?_, fun j x hx => ?_, fun _ => ⟨rfl, hr.base⟩⟩
  · show (w.heap.push _)[w.heap.size]? = _
    simp
  · have := hy.1.1; simp; omega
  · obtain ⟨y, hy1, hy2⟩ := hy.1.at hx
    have hj : j < ys.length := (List.getElem?_eq_some_iff.1 hy1).1
    refine ⟨y, ?_, hy2.mono hle, hy.2 x (List.mem_of_getElem? hx)⟩
    simp [List.getElem?_append_left hj, hy1]

theorem Post.drew (hr : HR ren ρ B0 h w) : Post ren ρ B0 h w ρ h w.drew :=
  { Post.refl (hr.of_heap (w' := w.drew) rfl) with
    rel := hr.of_heap rfl, os := rfl, tape := rfl, output := rfl, drw := Nat.le_succ _, size := Nat.le_refl _, frame := fun _ _ _ => rfl,
    new := fun i o hi hg hw => by
      obtain ⟨e, he, _⟩ := hr.obj i o hg (AO.live_of_wr hw)
      exact ⟨e, he, .inr ⟨i, o, e, hg, hw, he, rfl⟩⟩ }

end
end Go.AM
end
section
/- Keys of maps: how the model finds them. No condition. -/
namespace Go.AM

section
variable {ren : FuncId → Option Nat} {P : Program} {ρ : Rho} (w : World)

theorem allInts_get : ∀ {l : List AV}, allInts l = true → ∀ (j : Nat) (x : AV), l[j]? = some x → ∃ (k : IntKind) (n : Int), x = AV.i k n := by
  intro l
  induction l with
  | nil => intro _ j x hx; simp at hx
  | cons y r ih =>
    intro h j x hx
    cases y <;> (try (simp [allInts] at h; done))
    rename_i k n
    cases j with
    | zero => simp at hx; exact ⟨k, n, hx.symm⟩
    | succ j => exact ih (by simpa [allInts] using h) j x (by simpa using hx)

theorem keqs_true : ∀ {l m : List AV}, keq.keqs l m = some true → l = m
  | [], [], _ => rfl
  | [], _ :: _, h => by simp [keq.keqs] at h
  | x :: l, [], h => by cases x <;> simp [keq.keqs] at h
  | x :: l, y :: m, h => by
    cases x <;> (try (simp [keq.keqs] at h; done))
    cases y <;> (try (simp [keq.keqs] at h; done))
    rename_i k a k' b
    simp only [keq.keqs, kEq_eq, iEq_eq] at h
    by_cases hk : k = k'
    · subst hk
      simp only [decide_true, cond_true] at h
      cases hb : (a == b) with
      | false => simp [hb] at h
      | true =>
        simp only [hb, cond_true] at h
        have hab : a = b := by simpa using hb
        rw [hab, keqs_true h]
    · simp [hk] at h

theorem keq_true {x y : AV} (h : keq x y = some true) : x = y := by
  unfold keq at h
  split at h
  · rename_i k a k' b
    rw [kEq_eq, iEq_eq] at h
    by_cases hk : k = k'
    · subst hk
      simp only [decide_true, cond_true] at h
      injection h with h
      rw [show a = b by simpa using h]
    · simp [hk] at h
  · rename_i a b; injection h with h; have e : a = b := by simpa using h
    rw [e]
  · rename_i a b; injection h with h; have e : a = b := by simpa using h
    rw [e]
  · rw [keqs_true h]
  · cases h

/-- A key is one value alone. -/
theorem key_unique {kt : EqT} {x : AV} {y z : Value} (hk : keyOk kt x = true) (hy : VR ren ρ x y) (hz : VR ren ρ x z) : y = z := by
  unfold keyOk at hk
  split at hk
  · cases hy; cases hz; rfl
  · cases hy with
    | str s => 
      generalize hs : s.toList = l at hz
      cases hz with
      | str s' =>
        congr 1
        rw [ByteArray.toList_eq, ByteArray.toList_eq] at hs
        obtain ⟨⟨d⟩⟩ := s
        obtain ⟨⟨d'⟩⟩ := s'
        simp at hs
        subst hs; rfl
  · cases hy; cases hz; rfl
  · rename_i n l
    simp only [Bool.and_eq_true] at hk
    cases hy with
    | agg hl h1 hx => cases hz with
      | agg hl' h1' hx' =>
        rename_i a b
        congr 1
        apply Array.ext (by omega)
        intro j hj hj'
        have hjl : j < l.length := by omega
        obtain ⟨k, m, he⟩ := allInts_get hk.2 j l[j] (List.getElem?_eq_getElem hjl)
        have e1 := hx j l[j] a[j] (List.getElem?_eq_getElem hjl) (Array.getElem?_eq_getElem hj)
        have e2 := hx' j l[j] b[j] (List.getElem?_eq_getElem hjl) (Array.getElem?_eq_getElem hj')
        rw [he] at e1 e2
        rw [e1.int_inv, e2.int_inv]
  · cases hk

theorem sameBits_key {kt : EqT} {x : AV} {y : Value} (hk : keyOk kt x = true) (hy : VR ren ρ x y) (n : Nat) : Instr.sameBits (n + 1) y y = true := by
  unfold keyOk at hk
  split at hk
  · cases hy; simp [Instr.sameBits]
  · cases hy; simp [Instr.sameBits, beq_toListBytes]
  · cases hy; simp [Instr.sameBits]
  · rename_i m l
    simp only [Bool.and_eq_true] at hk
    cases hy with
    | agg hl h1 hx =>
      rename_i a
      simp only [Instr.sameBits, beq_self_eq_true, Bool.true_and, List.all_eq_true]
      intro p hp
      obtain ⟨j, hj⟩ := List.mem_iff_getElem?.1 hp
      rw [List.getElem?_zip_eq_some] at hj
      obtain ⟨h1, h2⟩ := hj
      rw [h1] at h2; injection h2 with h2
      have hja : a[j]? = some p.1 := by simpa using h1
      have hjl : j < l.length := by have := (Array.getElem?_eq_some_iff.1 hja).1; omega
      obtain ⟨k, q, he⟩ := allInts_get hk.2 j l[j] (List.getElem?_eq_getElem hjl)
      have e1 := hx j l[j] p.1 (List.getElem?_eq_getElem hjl) hja
      rw [he] at e1
      have e1 := e1.int_inv
      rw [← h2, e1]
      cases n <;> simp [Instr.sameBits]
  · cases hk

/-- What is asked of a key's type. -/
def KtOk (P : Program) (kt : TypeId) (e : EqT) : Prop := keyB P kt = some e

theorem checkKey_ints {e : TypeId} {k : IntKind} (he : P.underlying e = some (.int k)) (hs : sizeB P e = some 1) (cs : Array Value) (em : Bool) (n : Nat) :
    ∀ (l : List Nat), (∀ j ∈ l, ∃ m q, cs[j]? = some (.int m q)) →
      (forIn l PUnit.unit (fun (i : Nat) (_ : PUnit) => (do let v ← part e cs (i * (← sizeOf e)); Instr.checkKey em (n + 1) e v; pure (ForInStep.yield PUnit.unit) : Sem (ForInStep PUnit)))).run P w = .ok () w
  | [], _ => rfl
  | j :: l, h => by
    obtain ⟨m, q, hj⟩ := h j (by simp)
    have px := run_part_int w he cs (j * 1) _ (by simpa using hj)
    have pc : (Instr.checkKey em (n + 1) e (.int m q)).run P w = .ok () w := by simp [Instr.checkKey, run_underlying he]
    simp only [List.forIn_cons, Sem.run_bind, run_sizeB hs, Result.andThen_ok, px, pc, Sem.run_pure]
    exact checkKey_ints he hs cs em n l (fun i hi => h i (by simp [hi]))

theorem run_checkKey_ok {kt : TypeId} {e : EqT} (hT : keyB P kt = some e) {k : AV} {k' : Value} (hk : keyOk e k = true) (hv : VR ren ρ k k') (em : Bool) (n : Nat) : (Instr.checkKey em (n + 2) kt k').run P w = .ok () w := by
  unfold keyB at hT
  split at hT
  · rename_i q hu; injection hT with hT; subst hT
    simp only [keyOk] at hk
    cases k <;> simp at hk
    cases hv; simp [Instr.checkKey, run_underlying hu]
  · rename_i hu; injection hT with hT; subst hT
    cases k <;> simp [keyOk] at hk
    cases hv; simp [Instr.checkKey, run_underlying hu]
  · rename_i hu; injection hT with hT; subst hT
    cases k <;> simp [keyOk] at hk
    cases hv; simp [Instr.checkKey, run_underlying hu]
  · rename_i len el hu
    split at hT
    · rename_i m hm
      injection hT with hT; subst hT
      unfold intsB at hm
      rw [hu] at hm
      simp only at hm
      split at hm
      · rename_i kd he hs
        injection hm with hm; subst hm
        cases k <;> simp [keyOk] at hk
        rename_i l
        cases hv with
        | agg hl h1 hx =>
          rename_i cs
          have hint : ∀ j ∈ List.range' 0 len 1, ∃ m q, cs[j]? = some (.int m q) := fun j hj => by
            have hjn : j < len := by simpa using (List.mem_range'_1.1 hj).2
            have hjl : j < l.length := by omega
            obtain ⟨kk, q, he⟩ := allInts_get hk.2 j l[j] (List.getElem?_eq_getElem hjl)
            have hjc : j < cs.size := by omega
            have e1 := hx j l[j] cs[j] (List.getElem?_eq_getElem hjl) (Array.getElem?_eq_getElem hjc)
            rw [he] at e1
            exact ⟨kk, q, by rw [Array.getElem?_eq_getElem hjc, e1.int_inv]⟩
          have := checkKey_ints w he hs cs em n _ hint
          rw [Instr.checkKey]
          simp only [Sem.run_bind, run_underlying hu, Result.andThen_ok, Std.Legacy.Range.forIn_eq_forIn_range', Std.Legacy.Range.size, Nat.sub_zero, Nat.add_sub_cancel, Nat.div_one]
          simp at this ⊢
          rw [this]
          rfl
      · cases hm
    · cases hT
  · cases hT

/-- Keys held against each other by '=='. -/
theorem run_equal_key {kt : TypeId} {n : Nat} (hm : intsB P kt = some n) {x y : AV} {x' y' : Value} {r : Bool} (hk : keyOk (.ints n) x = true)
    (hx : VR ren ρ x x') (hy : VR ren ρ y y') (h : keq x y = some r) : (Op.equal kt x' y').run P w = .ok r w := by
  cases x <;> simp [keyOk] at hk
  rename_i l
  cases y <;> simp [keq] at h
  rename_i m
  cases hx with
  | agg hl h1 hx => cases hy with
    | agg hl' h1' hy =>
      exact equal_ints w hm (by omega) ⟨by simpa using hl, fun j x y a b => hx j x y a (by simpa using b)⟩ ⟨by simpa using hl', fun j x y a b => hy j x y a (by simpa using b)⟩ h

theorem sameNow_key {d : TypeDesc} {e : EqT} (hd : (e = .int ∧ ∃ k, d = .int k) ∨ (e = .str ∧ d = .string) ∨ (e = .bool ∧ d = .bool)) {x y : AV} {x' y' : Value} {r : Bool} (hk : keyOk e x = true)
    (hx : VR ren ρ x x') (hy : VR ren ρ y y') (h : keq x y = some r) : Instr.sameNow d x' y' = some r := by
  rcases hd with ⟨rfl, k, rfl⟩ | ⟨rfl, rfl⟩ | ⟨rfl, rfl⟩
  · cases x <;> simp [keyOk] at hk
    rename_i k1 a
    cases y <;> simp [keq] at h
    rename_i k2 b
    cases hx; cases hy
    rw [kEq_eq, iEq_eq] at h
    by_cases c : k1 = k2
    · subst c; simpa [Instr.sameNow] using h
    · simp [c] at h
  · cases x <;> simp [keyOk] at hk
    cases hx with
    | str s =>
      cases y <;> simp [keq] at h
      rename_i l
      generalize hl : AV.str l = yy at hy
      cases hy <;> simp at hl
      rename_i s'
      subst hl
      rw [← h, Instr.sameNow, beq_toListBytes]
  · cases x <;> simp [keyOk] at hk
    cases y <;> simp [keq] at h
    cases hx; cases hy
    simpa [Instr.sameNow] using h

/-- The entries of a map. -/
def ER (ren : FuncId → Option Nat) (ρ : Rho) (es : List (AV × AV)) (en : List MapEntry) : Prop :=
  es.length = en.length ∧ ∀ (j : Nat) (k v : AV) (x : MapEntry), es[j]? = some (k, v) → en[j]? = some x → VR ren ρ k x.key ∧ VR ren ρ v x.val

theorem ER.cons_inv {k v : AV} {es : List (AV × AV)} {b : List MapEntry} (h : ER ren ρ ((k, v) :: es) b) : ∃ x en, b = x :: en ∧ VR ren ρ k x.key ∧ VR ren ρ v x.val ∧ ER ren ρ es en := by
  cases b with
  | nil => have := h.1; simp at this
  | cons x en =>
    obtain ⟨h1, h2⟩ := h.2 0 k v x (by simp) (by simp)
    exact ⟨x, en, rfl, h1, h2, by have := h.1; simpa using this, fun j k v y a b => h.2 (j + 1) k v y (by simpa using a) (by simpa using b)⟩

/-- What is found. -/
def Found (en : List MapEntry) (i : Nat) : Option Nat → Option (Nat × Value) → Prop
  | none, r => r = none
  | some p, r => i ≤ p ∧ ∃ x, en[p - i]? = some x ∧ r = some (p, x.val)

theorem findNow_loc {d : TypeDesc} {e : EqT} (hd : (e = .int ∧ ∃ k, d = .int k) ∨ (e = .str ∧ d = .string) ∨ (e = .bool ∧ d = .bool)) {k : AV} {k' : Value} (hk : keyOk e k = true) (hv : VR ren ρ k k') :
    ∀ (es : List (AV × AV)) (en : List MapEntry) (i : Nat) (r : Option Nat), ER ren ρ es en → mloc k es i = some r → ∃ f, Instr.findNow d k' en i = some f ∧ Found en i r f
  | [], en, i, r, h, hm => by
    have : en = [] := by cases en with
      | nil => rfl
      | cons _ _ => have := h.1; simp at this
    subst this
    simp [mloc] at hm; subst hm
    exact ⟨none, rfl, rfl⟩
  | (k0, v0) :: es, b, i, r, h, hm => by
    obtain ⟨x, en, rfl, h1, h2, h3⟩ := h.cons_inv
    simp only [mloc] at hm
    split at hm
    · rename_i hq
      injection hm with hm; subst hm
      have := sameNow_key hd hk hv h1 hq
      exact ⟨some (i, x.val), by simp [Instr.findNow, this], Nat.le_refl _, x, by simp, rfl⟩
    · rename_i hq
      have := sameNow_key hd hk hv h1 hq
      obtain ⟨f, g1, g2⟩ := findNow_loc hd hk hv es en (i + 1) r h3 hm
      refine ⟨f, by simp [Instr.findNow, this, g1], ?_⟩
      cases r with
      | none => exact g2
      | some p =>
        obtain ⟨hp, y, hy, hf⟩ := g2
        exact ⟨by omega, y, by rw [show p - i = (p - (i + 1)) + 1 from by omega]; simpa using hy, hf⟩
    · cases hm

theorem findAsking_loc {kt : TypeId} {n : Nat} (hn : intsB P kt = some n) {k : AV} {k' : Value} (hk : keyOk (.ints n) k = true) (hv : VR ren ρ k k') :
    ∀ (es : List (AV × AV)) (en : List MapEntry) (i : Nat) (r : Option Nat), ER ren ρ es en → mloc k es i = some r → ∃ f, (Instr.findAsking kt k' en i).run P w = .ok f w ∧ Found en i r f
  | [], en, i, r, h, hm => by
    have : en = [] := by cases en with
      | nil => rfl
      | cons _ _ => have := h.1; simp at this
    subst this
    simp [mloc] at hm; subst hm
    exact ⟨none, rfl, rfl⟩
  | (k0, v0) :: es, b, i, r, h, hm => by
    obtain ⟨x, en, rfl, h1, h2, h3⟩ := h.cons_inv
    simp only [mloc] at hm
    split at hm
    · rename_i hq
      injection hm with hm; subst hm
      have := run_equal_key w hn hk hv h1 hq
      exact ⟨some (i, x.val), by simp [Instr.findAsking, this], Nat.le_refl _, x, by simp, rfl⟩
    · rename_i hq
      have := run_equal_key w hn hk hv h1 hq
      obtain ⟨f, g1, g2⟩ := findAsking_loc hn hk hv es en (i + 1) r h3 hm
      refine ⟨f, by simp [Instr.findAsking, this, g1], ?_⟩
      cases r with
      | none => exact g2
      | some p =>
        obtain ⟨hp, y, hy, hf⟩ := g2
        exact ⟨by omega, y, by rw [show p - i = (p - (i + 1)) + 1 from by omega]; simpa using hy, hf⟩
    · cases hm

theorem run_findKey_loc {kt : TypeId} {e : EqT} (hT : keyB P kt = some e) {k : AV} {k' : Value} (hk : keyOk e k = true) (hv : VR ren ρ k k') {es : List (AV × AV)} {en : List MapEntry} {r : Option Nat} (h : ER ren ρ es en)
    (hm : mloc k es 0 = some r) : ∃ f, (Instr.findKey kt k' en).run P w = .ok f w ∧ Found en 0 r f := by
  have now : ∀ d, P.underlying kt = some d → ((e = .int ∧ ∃ k, d = .int k) ∨ (e = .str ∧ d = .string) ∨ (e = .bool ∧ d = .bool)) → ∃ f, (Instr.findKey kt k' en).run P w = .ok f w ∧ Found en 0 r f := fun d hu hd => by
    obtain ⟨f, g1, g2⟩ := findNow_loc hd hk hv es en 0 r h hm
    exact ⟨f, by simp [Instr.findKey, run_underlying hu, g1], g2⟩
  unfold keyB at hT
  split at hT
  · rename_i q hu; injection hT with hT; subst hT; exact now _ hu (.inl ⟨rfl, q, rfl⟩)
  · rename_i hu; injection hT with hT; subst hT; exact now _ hu (.inr (.inl ⟨rfl, rfl⟩))
  · rename_i hu; injection hT with hT; subst hT; exact now _ hu (.inr (.inr ⟨rfl, rfl⟩))
  · rename_i len el hu
    split at hT
    · rename_i n hn
      injection hT with hT; subst hT
      obtain ⟨f, g1, g2⟩ := findAsking_loc w hn hk hv es en 0 r h hm
      cases en with
      | nil =>
        refine ⟨none, by simp [Instr.findKey, run_underlying hu, Instr.findNow], ?_⟩
        simp [Instr.findAsking] at g1
        subst g1; exact g2
      | cons x en => exact ⟨f, by simp only [Instr.findKey, Sem.run_bind, run_underlying hu, Result.andThen_ok, Instr.findNow, Instr.sameNow]; exact g1, g2⟩
    · cases hT
  · cases hT

end
end Go.AM
end
section
/- Each operation: what the abstract machine computes is what the model computes. No condition but that it was compiled. -/
namespace Go.AM

section
variable {ren : FuncId → Option Nat} {P : Program} {ρ : Rho} {B0 nt : Nat} {h : AH} {w : World} {t : Tmps} {a : Act}

/-- A value, the memory as it was. -/
theorem did_value {s : Sem Value} {v : AV} {v' : Value} (hr : HR ren ρ B0 h w) (hs : s.run P w = .ok v' w) (hv : VR ren ρ v v') :
    Did ren P ρ B0 h w (do pure (Next.value (← s))) v h := Did.pure hr (by simp [hs]) hv

theorem did_value' {s : Sem Value} {v : AV} {v' : Value} {w' : World} {ρ' : Rho} {h' : AH} (hs : s.run P w = .ok v' w') (hv : VR ren ρ' v v') (hp : Post ren ρ B0 h w ρ' h' w') :
    Did ren P ρ B0 h w (do pure (Next.value (← s))) v h' := ⟨_, v', w', ρ', by simp [hs] <;> rfl, .inl rfl, hv, hp⟩
theorem VR.und (ρ : Rho) : VR ren ρ und undef := .tup rfl (fun j x y hx _ => by simp at hx)
theorem did_unit {s : Sem Unit} {w' : World} {ρ' : Rho} {h' : AH} (hs : s.run P w = .ok () w') (hp : Post ren ρ B0 h w ρ' h' w') :
    Did ren P ρ B0 h w (do s; pure Next.skip) und h' := ⟨_, undef, w', ρ', by simp [hs] <;> rfl, .inr ⟨rfl, rfl⟩, VR.und ρ', hp⟩

/-! Numbers that come as values. -/
theorem VR.tup_at {l : List AV} {y : Value} (hx : VR ren ρ (.tup l) y) {i : Nat} {v : AV} (hv : l[i]? = some v) : ∃ a v', y = .tuple a ∧ a[i]? = some v' ∧ VR ren ρ v v' := by
  cases hx with
  | tup hl hx =>
    rename_i a
    have : i < a.size := by have := (List.getElem?_eq_some_iff.1 hv).1; omega
    exact ⟨a, a[i], rfl, Array.getElem?_eq_getElem this, hx i v _ hv (Array.getElem?_eq_getElem this)⟩

theorem part_ok {T : TypeId} {b : Bool} {off size : Nat} (hb : aggB P T = some b) (hs : sizeB P T = some size) {l : List AV} {cs : Array Value} (hx : VR ren ρ (.agg l) (.agg cs)) {v : AV}
    (hv : (bif b then (match cut off size l with | some c => some (.agg c) | none => none) else (match cut off 1 l with | some [v] => some v | _ => none)) = some v) :
    ∃ v', (part T cs off).run P w = .ok v' w ∧ VR ren ρ v v' := by
  cases hx with
  | agg hl h1 hx =>
    have hxs : VRL ren ρ l cs.toList := ⟨by simpa using hl, fun j x y a b => hx j x y a (by simpa using b)⟩
    cases b with
    | true =>
      simp only [cond_true] at hv
      split at hv
      · rename_i c hc
        injection hv with hv; subst hv
        obtain ⟨k1, k2, k3⟩ := cut_spec hc
        refine ⟨_, by simp [part, run_aggB hb, run_sizeB hs]; rfl, .agg (by simp; omega) (fun x hm => ?_) (fun j x y hx' hy' => ?_)⟩
        · obtain ⟨j, hj⟩ := List.mem_iff_getElem?.1 hm
          have hjn : j < size := by have := (List.getElem?_eq_some_iff.1 hj).1; omega
          rw [k3 j hjn] at hj
          exact h1 x (List.mem_of_getElem? hj)
        · have hjn : j < size := by have := (List.getElem?_eq_some_iff.1 hx').1; omega
          rw [k3 j hjn] at hx'
          rw [Array.getElem?_extract_of_lt (by omega)] at hy'
          exact hx _ x y hx' (by rw [Array.getElem?_eq_getElem (by omega)]; exact hy')
      · cases hv
    | false =>
      simp only [cond_false] at hv
      split at hv
      · rename_i v0 hc
        injection hv with hv; subst hv
        obtain ⟨k1, k2, k3⟩ := cut_spec hc
        have := k3 0 (by omega)
        simp at this
        obtain ⟨y, hy1, hy2⟩ := hxs.at this.symm
        have hy1' : cs[off]? = some y := by simpa using hy1
        exact ⟨y, by simp [part, run_aggB hb, hy1'], hy2⟩
      · cases hv

theorem foldInts_ok (f : Int → Int → Int) (g : Value → Value → Sem Value) (hg : ∀ k x k' y, g (.int k x) (.int k' y) = pure (.int k (f x y))) {l : List AV} {vs : List Value} {v : AV} (hl : VRL ren ρ l vs) (hv : foldInts f l = some v) :
    ∃ x r v', vs = x :: r ∧ (r.foldlM g x).run P w = .ok v' w ∧ VR ren ρ v v' := by
  have go : ∀ (l : List AV) (vs : List Value) (k : IntKind) (x : Int) (v : AV), VRL ren ρ l vs → foldInts.go f k x l = some v → ∃ v', (vs.foldlM g (.int k x)).run P w = .ok v' w ∧ VR ren ρ v v' := by
    intro l
    induction l with
    | nil =>
      intro vs k x v hl hv
      cases vs with
      | nil => simp [foldInts.go] at hv; subst hv; exact ⟨_, rfl, .i _ _⟩
      | cons _ _ => have := hl.1; simp at this
    | cons y l ih =>
      intro vs k x v hl hv
      obtain ⟨y', r, rfl, h1, h2⟩ := hl.cons_inv
      cases y <;> simp [foldInts.go] at hv
      have h1 := h1.int_inv; subst h1
      obtain ⟨v', g1, g2⟩ := ih r k _ v h2 hv
      exact ⟨v', by simp only [List.foldlM_cons, hg, Sem.run_bind, Sem.run_pure, Result.andThen_ok]; exact g1, g2⟩
  cases l with
  | nil => simp [foldInts] at hv
  | cons y l =>
    obtain ⟨y', r, rfl, h1, h2⟩ := hl.cons_inv
    cases y <;> simp [foldInts] at hv
    have h1 := h1.int_inv; subst h1
    obtain ⟨v', g1, g2⟩ := go l r _ _ v h2 hv
    exact ⟨_, r, v', rfl, g1, g2⟩

theorem rep_ok {z : List AV} {cs : List Value} (hz : CL ren ρ z cs) : ∀ n, CL ren ρ (rep n z) ((List.replicate n cs).flatten)
  | 0 => ⟨VRL.nil ρ, fun x hx => by simp [rep] at hx⟩
  | n + 1 => by
    obtain ⟨h1, h2⟩ := rep_ok hz n
    refine ⟨by simp only [rep, List.replicate_succ, List.flatten_cons]; exact hz.1.append h1, fun x hx => ?_⟩
    simp only [rep, List.mem_append] at hx
    rcases hx with hx | hx
    · exact hz.2 x hx
    · exact h2 x hx

theorem range_mod (cs : Array Value) (n : Nat) : ((Array.range (n * cs.size)).map (fun i => cs[i % cs.size]!)).toList = (List.replicate n cs.toList).flatten := by
  induction n with
  | zero => simp
  | succ n ih =>
    rw [List.replicate_succ', List.flatten_concat, ← ih]
    apply List.ext_getElem?
    intro j
    simp only [Array.toList_map, Array.toList_range, List.getElem?_map]
    by_cases hj : j < n * cs.size
    · rw [List.getElem?_append_left (by simpa using hj)]
      simp only [List.getElem?_map, List.getElem?_range hj, List.getElem?_range (show j < (n + 1) * cs.size by rw [Nat.add_mul]; omega)]
    · rw [List.getElem?_append_right (by simpa using hj)]
      by_cases hj2 : j < (n + 1) * cs.size
      · have hlt : j - n * cs.size < cs.size := by rw [Nat.add_mul] at hj2; omega
        have hmod : j % cs.size = j - n * cs.size := by
          have : j = (j - n * cs.size) + n * cs.size := by omega
          rw [this, Nat.add_mul_mod_self_right, Nat.mod_eq_of_lt (by omega)]; omega
        simp [List.getElem?_range hj2, hmod, hlt]
      · rw [List.getElem?_eq_none (by simpa using hj2), List.getElem?_eq_none (by simp; rw [Nat.add_mul] at hj2; omega)]
        rfl

theorem zeroB_ok {T : TypeId} {z : AV} (hz : zeroB P T = some z) : ∃ i zv, P.info? T = some i ∧ i.zero = some zv ∧ cv zv = some z := by
  unfold zeroB at hz
  split at hz
  · rename_i i hi
    split at hz
    · rename_i zv hzv; exact ⟨i, zv, hi, hzv, hz⟩
    · cases hz
  · cases hz

/-- The cells of a zero value. -/
theorem zero_cells {T : TypeId} {z : AV} (hz : zeroB P T = some z) (hne : z.flat ≠ []) : ∃ i zv, P.info? T = some i ∧ i.zero = some zv ∧ VR ren ρ z zv ∧ CL ren ρ z.flat zv.cells.toList := by
  obtain ⟨i, zv, h1, h2, h3⟩ := zeroB_ok hz
  have hv := cv_rel (ren := ren) ρ h3
  exact ⟨i, zv, h1, h2, hv, hv.flat hne⟩

end
end Go.AM
end
section
/- Each operation: what the abstract machine computes is what the model computes. No condition but that it was compiled. -/
namespace Go.AM

section
variable {ren : FuncId → Option Nat} {P : Program} {ρ : Rho} {B0 nt : Nat} {h : AH} {w : World} {t : Tmps} {a : Act}

/-- What is to be shown of one operation. -/
def OpOk (ren : FuncId → Option Nat) (P : Program) (ρ : Rho) (B0 nt : Nat) (h : AH) (w : World) (t : Tmps) (a : Act) (o : Oper) : Prop :=
  ∀ ao v d, compOp P ren o = some ao → aopD t h ao = some (v, d) → HR ren ρ B0 h w → TR ren ρ nt t a → (h.n < (d.on h).n → ρ h.n = none) → Did ren P ρ B0 h w (execOp a.eval o) v (d.on h)

variable {dst : Option Tmp} {ty : TypeId} {pos : String} {after : Array Edge} {guard : Option (Nat × Bool)}

theorem ok_move (x : Operand) : OpOk ren P ρ B0 nt h w t a ⟨dst, .move x, ty, pos, after, guard⟩ := by
  intro ao v d hc hrun hr ht hf
  obtain ⟨y, hy, hc⟩ := bind_some hc
  injection hc with hc; subst hc
  injection hrun with hrun; injection hrun with h1 h2; subst h1; subst h2
  exact Did.pure hr rfl (ht.ev hy)
theorem ok_assign (x : Operand) : OpOk ren P ρ B0 nt h w t a ⟨dst, .assign x, ty, pos, after, guard⟩ := by
  intro ao v d hc hrun hr ht hf
  obtain ⟨y, hy, hc⟩ := bind_some hc
  injection hc with hc; subst hc
  injection hrun with hrun; injection hrun with h1 h2; subst h1; subst h2
  exact Did.pure hr rfl (ht.ev hy)
theorem ok_pick (x y z : Operand) : OpOk ren P ρ B0 nt h w t a ⟨dst, .pick x y z, ty, pos, after, guard⟩ := by
  intro ao v d hc hrun hr ht hf
  obtain ⟨x', hx, hc⟩ := bind_some hc
  obtain ⟨y', hy, hc⟩ := bind_some hc
  obtain ⟨z', hz, hc⟩ := bind_some hc
  injection hc with hc; subst hc
  have hx := ht.ev hx
  simp only [aopD, op_pick] at hrun
  split at hrun
  · rename_i e; rw [e] at hx
    injection hrun with hrun; injection hrun with h1 h2; subst h1; subst h2
    exact Did.pure hr (by simp [execOp, hx.bool_inv, asBool]) (ht.ev hy)
  · rename_i e; rw [e] at hx
    injection hrun with hrun; injection hrun with h1 h2; subst h1; subst h2
    exact Did.pure hr (by simp [execOp, hx.bool_inv, asBool]) (ht.ev hz)
  · cases hrun
theorem ok_nilCheck (x : Operand) : OpOk ren P ρ B0 nt h w t a ⟨dst, .nilCheck x, ty, pos, after, guard⟩ := by
  intro ao v d hc hrun hr ht hf
  obtain ⟨y, hy, hc⟩ := bind_some hc
  injection hc with hc; subst hc
  have hv := ht.ev hy
  simp only [aopD, op_nilck] at hrun
  split at hrun
  · rename_i e; rw [e] at hv
    injection hrun with hrun; injection hrun with h1 h2; subst h1; subst h2
    generalize hx : a.eval x = x' at hv
    cases hv with
    | ptr he => exact Did.pure hr (by simp [execOp, hx] <;> rfl) (.ptr he)
  · rename_i e; rw [e] at hv
    injection hrun with hrun; injection hrun with h1 h2; subst h1; subst h2
    generalize hx : a.eval x = x' at hv
    cases hv with
    | fn hf hl hh => exact Did.pure hr (by simp [execOp, hx] <;> rfl) (.fn hf hl hh)
  · cases hrun
theorem ok_binOp (op : BinOp) (T T' : TypeId) (x y : Operand) : OpOk ren P ρ B0 nt h w t a ⟨dst, .binOp op T x y T', ty, pos, after, guard⟩ := by
  intro ao v d hc hrun hr ht hf
  obtain ⟨x', hx, hc⟩ := bind_some hc
  obtain ⟨y', hy, hc⟩ := bind_some hc
  have hx := ht.ev hx
  have hy := ht.ev hy
  have isEq : ∀ (neg : Bool) (e : EqT), op = (if neg then .neq else .eql) → eqB P T = some e → aopD t h (.eq e neg x' y') = some (v, d) → Did ren P ρ B0 h w (execOp a.eval ⟨dst, .binOp op T x y T', ty, pos, after, guard⟩) v (d.on h) := by
    intro neg e hop hT hrun
    subst hop
    simp only [aopD, op_eq] at hrun
    split at hrun
    · rename_i r hq
      injection hrun with hrun; injection hrun with h1 h2; subst h1; subst h2
      have := aEq_run w hT hx hy hq x y neg
      refine did_value (s := do eqGuard (if neg then .neq else .eql) T x y (a.eval x) (a.eval y); binOp (if neg then .neq else .eql) T (a.eval x) (a.eval y)) hr this ?_
      cases neg <;> exact .b _
    · cases hrun
  have other : (op ≠ .eql ∧ op ≠ .neq) → aopD t h (.bin op x' y') = some (v, d) → Did ren P ρ B0 h w (execOp a.eval ⟨dst, .binOp op T x y T', ty, pos, after, guard⟩) v (d.on h) := by
    intro hop hrun
    simp only [aopD, op_bin] at hrun
    split at hrun
    · rename_i u hq
      injection hrun with hrun; injection hrun with h1 h2; subst h1; subst h2
      obtain ⟨v', g1, g2⟩ := aBin_run (P := P) (w := w) (tt := T) hx hy hq
      refine did_value (s := do eqGuard op T x y (a.eval x) (a.eval y); binOp op T (a.eval x) (a.eval y)) hr ?_ g2
      have : (eqGuard op T x y (a.eval x) (a.eval y)).run P w = .ok () w := by
        cases op <;> first | rfl | exact absurd rfl hop.1 | exact absurd rfl hop.2
      rw [Sem.run_bind, this, Result.andThen_ok]
      exact g1
    · cases hrun
  cases op
  case eql =>
    obtain ⟨e, he, hc⟩ := bind_some hc
    injection hc with hc; subst hc
    exact isEq false e rfl he hrun
  case neq =>
    obtain ⟨e, he, hc⟩ := bind_some hc
    injection hc with hc; subst hc
    exact isEq true e rfl he hrun
  all_goals
    injection hc with hc; subst hc
    exact other ⟨by simp, by simp⟩ hrun
theorem ok_unOp (op : UnOp) (T : TypeId) (x : Operand) : OpOk ren P ρ B0 nt h w t a ⟨dst, .unOp op T x, ty, pos, after, guard⟩ := by
  intro ao v d hc hrun hr ht hf
  obtain ⟨y, hy, hc⟩ := bind_some hc
  injection hc with hc; subst hc
  have hv := ht.ev hy
  simp only [aopD, op_un] at hrun
  split at hrun
  · rename_i e; rw [e] at hv
    injection hrun with hrun; injection hrun with h1 h2; subst h1; subst h2
    exact did_value (s := Op.unary _ (a.eval x)) hr (by rw [hv.bool_inv]; rfl) (.b _)
  · rename_i e; rw [e] at hv
    injection hrun with hrun; injection hrun with h1 h2; subst h1; subst h2
    exact did_value (s := Op.unary _ (a.eval x)) hr (by rw [hv.int_inv]; rfl) (.i _ _)
  · rename_i k n e; rw [e] at hv
    injection hrun with hrun; injection hrun with h1 h2; subst h1; subst h2
    refine did_value (s := Op.unary _ (a.eval x)) hr (v' := .int k (k.wrap (BitVec.ofInt k.bits (bif k.signed then -1 else k.max) ^^^ BitVec.ofInt k.bits n).toNat)) ?_ (.i _ _)
    rw [hv.int_inv]
    cases k <;> rfl
  · cases hrun
theorem ok_convert (S D : TypeId) (x : Operand) : OpOk ren P ρ B0 nt h w t a ⟨dst, .convert S D x, ty, pos, after, guard⟩ := by
  intro ao v d hc hrun hr ht hf
  simp only [compOp] at hc
  split at hc
  · rename_i ks k hS hD
    obtain ⟨y, hy, hc⟩ := bind_some hc
    injection hc with hc; subst hc
    have hv := ht.ev hy
    simp only [aopD, op_conv] at hrun
    split at hrun
    · rename_i e; rw [e] at hv
      injection hrun with hrun; injection hrun with h1 h2; subst h1; subst h2
      refine did_value (s := convert S D (a.eval x)) hr ?_ (.i _ _)
      rw [hv.int_inv]
      simp [convert, run_underlying hS, run_underlying hD, Conv.intToInt]
    · cases hrun
  · cases hc
theorem ok_makeFunc (fn : Fn) (first caps : Array Operand) : OpOk ren P ρ B0 nt h w t a ⟨dst, .makeFunc fn first caps, ty, pos, after, guard⟩ := by
  intro ao v d hc hrun hr ht hf
  cases fn <;> simp only [compOp] at hc <;> (try (cases hc; done))
  rename_i f
  cases hb : Nat.beq first.size 0 with
  | false => simp [hb] at hc
  | true =>
    simp only [hb, cond_true] at hc
    obtain ⟨g, hg, hc⟩ := bind_some hc
    obtain ⟨cs, hcs, hc⟩ := bind_some hc
    injection hc with hc; subst hc
    injection hrun with hrun; injection hrun with h1 h2; subst h1; subst h2
    have h0 : first = #[] := by
      have := Nat.eq_of_beq_eq_true hb
      exact Array.eq_empty_of_size_eq_zero this
    subst h0
    have hl := ht.evs hcs
    refine did_value (s := Instr.makeFunc (.func f) (#[].map a.eval) (caps.map a.eval)) hr (v' := .func (.func f) #[] (caps.map a.eval)) (by simp [Instr.makeFunc]) ?_
    exact .fn hg (by have := hl.1; simpa using this) (fun j x y hx hy => hl.2 j x y hx (by simpa using hy))
theorem ok_slice (T : TypeId) (x : Operand) (lo hi mx : Option Operand) : OpOk ren P ρ B0 nt h w t a ⟨dst, .slice T x lo hi mx, ty, pos, after, guard⟩ := by
  intro ao v d hc hrun hr ht hf
  simp only [compOp] at hc
  split at hc
  · rename_i e hu
    obtain ⟨es, hs, hc⟩ := bind_some hc
    obtain ⟨x', hx, hc⟩ := bind_some hc
    obtain ⟨lo', hlo, hc⟩ := bind_some hc
    obtain ⟨hi', hhi, hc⟩ := bind_some hc
    obtain ⟨mx', hmx, hc⟩ := bind_some hc
    injection hc with hc; subst hc
    simp only [aopD, op_slice] at hrun
    split at hrun
    · rename_i u hq
      injection hrun with hrun; injection hrun with h1 h2; subst h1; subst h2
      obtain ⟨v', g1, g2⟩ := aSlice_run (P := P) (w := w) hu hs (ht.ev hx) (ht.vro hlo) (ht.vro hhi) (ht.vro hmx) hq
      exact did_value (s := Instr.sliceAt T (a.eval x) (lo.map a.eval) (hi.map a.eval) (mx.map a.eval)) hr g1 g2
    · cases hrun
  · cases hc
theorem ok_fieldAddr (T : TypeId) (x : Operand) (f : Nat) : OpOk ren P ρ B0 nt h w t a ⟨dst, .fieldAddr T x f, ty, pos, after, guard⟩ := by
  intro ao v d hc hrun hr ht hf
  simp only [compOp] at hc
  split at hc
  · rename_i fs hu
    split at hc
    · rename_i fd hfd
      obtain ⟨s, hs, hc⟩ := bind_some hc
      cases hb : Nat.beq s 0 with
      | true => simp [hb] at hc
      | false =>
        simp only [hb, cond_false] at hc
        obtain ⟨y, hy, hc⟩ := bind_some hc
        injection hc with hc; subst hc
        have hv := ht.ev hy
        simp only [aopD, op_flda] at hrun
        split at hrun
        · rename_i id off e; rw [e] at hv
          injection hrun with hrun; injection hrun with h1 h2; subst h1; subst h2
          generalize hx : a.eval x = x' at hv
          cases hv with
          | ptr he =>
            have hs0 : s ≠ 0 := fun e => by subst e; simp at hb
            refine did_value (s := Instr.fieldAt T (a.eval x) f) hr ?_ (.ptr (off := off + fd.offset) he)
            rw [hx]
            simp [Instr.fieldAt, run_underlying hu, hfd, Instr.sureAddr, fieldPlace, run_sizeB hs, hs0, addr_add, Nat.add_assoc]
        · cases hrun
    · cases hc
  · cases hc
theorem ok_field (T : TypeId) (x : Operand) (f : Nat) : OpOk ren P ρ B0 nt h w t a ⟨dst, .field T x f, ty, pos, after, guard⟩ := by
  intro ao v d hc hrun hr ht hf
  simp only [compOp] at hc
  split at hc
  · rename_i fs hu
    split at hc
    · rename_i fd hfd
      obtain ⟨b, hb, hc⟩ := bind_some hc
      obtain ⟨s, hs, hc⟩ := bind_some hc
      obtain ⟨y, hy, hc⟩ := bind_some hc
      injection hc with hc; subst hc
      have hv := ht.ev hy
      simp only [aopD, op_fld] at hrun
      split at hrun
      · rename_i l e; rw [e] at hv
        generalize hx : a.eval x = x' at hv
        cases x' <;> (try (cases hv; done))
        rename_i cs
        have hpart : ∃ u, (bif b then (match cut fd.offset s l with | some c => some (.agg c) | none => none) else (match cut fd.offset 1 l with | some [v] => some v | _ => none)) = some u ∧ v = u ∧ d = .same := by
          cases b with
          | true =>
            simp only [cond_true] at hrun ⊢
            split at hrun
            · rename_i c hcut; injection hrun with hrun; injection hrun with h1 h2; exact ⟨_, by first | rw [hcut] | rfl, h1.symm, h2.symm⟩
            · cases hrun
          | false =>
            simp only [cond_false] at hrun ⊢
            split at hrun
            · rename_i c hcut; injection hrun with hrun; injection hrun with h1 h2; exact ⟨_, by first | rw [hcut] | rfl, h1.symm, h2.symm⟩
            · cases hrun
        obtain ⟨u, hu1, rfl, rfl⟩ := hpart
        obtain ⟨v', g1, g2⟩ := part_ok (P := P) (w := w) hb hs hv hu1
        refine did_value (s := Instr.field T (a.eval x) f) hr ?_ g2
        rw [hx]
        simp [Instr.field, run_underlying hu, hfd, asAgg, g1]
      · cases hrun
    · cases hc
  · cases hc
theorem ok_extract (x : Operand) (i : Nat) : OpOk ren P ρ B0 nt h w t a ⟨dst, .extract x i, ty, pos, after, guard⟩ := by
  intro ao v d hc hrun hr ht hf
  obtain ⟨y, hy, hc⟩ := bind_some hc
  injection hc with hc; subst hc
  have hv := ht.ev hy
  simp only [aopD, op_ext] at hrun
  split at hrun
  · rename_i l e; rw [e] at hv
    split at hrun
    · rename_i u hu
      injection hrun with hrun; injection hrun with h1 h2; subst h1; subst h2
      obtain ⟨b, v', g1, g2, g3⟩ := hv.tup_at hu
      refine did_value (s := Instr.extract (a.eval x) i) hr ?_ g3
      rw [g1]
      simp [Instr.extract, g2]
    · cases hrun
  · cases hrun
theorem run_places (l : List Field) (hall : ∀ f ∈ l, (sizeB P f.type).isSome = true) : (l.mapM (fun f => (do pure (f.offset, ← sizeOf f.type) : Sem (Nat × Nat)))).run P w = .ok (l.map fun f => (f.offset, (sizeB P f.type).getD 0)) w := by
  induction l with
  | nil => rfl
  | cons f l ih =>
    obtain ⟨s, hs⟩ := Option.isSome_iff_exists.1 (hall f (by simp))
    have := ih (fun g hg => hall g (by simp [hg]))
    rw [List.mapM_cons]
    simp only [Sem.run_bind, run_sizeB hs, Result.andThen_ok, Sem.run_pure, this, List.map_cons, hs, Option.getD_some]
set_option maxHeartbeats 2000000 in
theorem ok_build (T : TypeId) (ps : Array (Nat × Operand)) : OpOk ren P ρ B0 nt h w t a ⟨dst, .build T ps, ty, pos, after, guard⟩ := by
  intro ao v d hc hrun hr ht hf
  simp only [compOp] at hc
  obtain ⟨z, hz, hc⟩ := bind_some hc
  have hps : (ps.map fun (x : Nat × Operand) => (x.1, a.eval x.2)).toList = ps.toList.map fun (i, x) => (i, a.eval x) := by simp
  have common : ∀ (place : Nat → Option (Nat × Nat)), (∀ i o s, placeB P T i = some (o, s) → place i = some (o, s)) → z.flat ≠ [] → (do some (.build z.flat (← cParts P ren T ps.toList)) : Option AOp) = some ao →
      ∃ i zv cs, P.info? T = some i ∧ i.zero = some zv ∧ Instr.fill place zv.cells (ps.toList.map fun (i, x) => (i, a.eval x)) = some cs ∧ VR ren ρ v (.agg cs) ∧ d = .same := by
    intro place hpl hne hc
    obtain ⟨qs, hq, hc⟩ := bind_some hc
    injection hc with hc; subst hc
    obtain ⟨i, zv, h1, h2, h3, h4⟩ := zero_cells (ren := ren) (ρ := ρ) hz hne
    simp only [aopD, op_build] at hrun
    split at hrun
    · rename_i c hfill
      injection hrun with hrun; injection hrun with k1 k2; subst k1; subst k2
      obtain ⟨c', g1, g2⟩ := fill_ok place T hpl ht _ _ _ _ zv.cells hq hfill h4
      exact ⟨i, zv, c', h1, h2, g1, by simpa using g2.agg, rfl⟩
    · cases hrun
  split at hc
  · rename_i fs hu
    cases hb : z.flat.isEmpty || !fs.toList.all (fun f => (sizeB P f.type).isSome) with
    | true => rw [hb] at hc; cases hc
    | false =>
      rw [hb, cond_false] at hc
      simp only [Bool.or_eq_false_iff, Bool.not_eq_false', List.all_eq_true] at hb
      obtain ⟨i, zv, cs, h1, h2, h3, h4, rfl⟩ := common (fun i => (fs.map fun f => (f.offset, (sizeB P f.type).getD 0))[i]?) (fun i o s hp => by
        unfold placeB at hp
        rw [hu] at hp
        simp only at hp
        split at hp
        · rename_i f hf
          split at hp
          · rename_i s' hs'
            injection hp with hp; injection hp with p1 p2; subst p1; subst p2
            simp [hf, hs']
          · cases hp
        · cases hp) (by intro e; rw [e] at hb; simp at hb) hc
      refine did_value (s := Instr.build T (ps.map fun (i, x) => (i, a.eval x))) hr ?_ h4
      have hpl := run_places (P := P) (w := w) fs.toList (fun f hf => hb.2 f hf)
      have hm : (fs.mapM (fun f => (do pure (f.offset, ← sizeOf f.type) : Sem (Nat × Nat)))).run P w = .ok (fs.map fun f => (f.offset, (sizeB P f.type).getD 0)) w := by
        obtain ⟨l⟩ := fs
        rw [List.mapM_toArray, Sem.run_map, hpl]
        simp
      simp only [Instr.build, Sem.run_bind, run_underlying hu, Result.andThen_ok, zeroValue, typeInfo, run_program, h1, h2, Sem.run_pure, hm]
      rw [hps]
      simp only [h3]
      rfl
  · rename_i n e hu
    cases hb : z.flat.isEmpty || !(sizeB P e).isSome with
    | true => rw [hb] at hc; cases hc
    | false =>
      rw [hb, cond_false] at hc
      cases hse : sizeB P e with
      | none => simp [hse] at hb
      | some s =>
        have hplace : ∀ i o s', placeB P T i = some (o, s') → some (i * s, s) = some (o, s') := fun i o s' hp => by
          unfold placeB at hp
          rw [hu] at hp
          simp only [hse] at hp
          cases s with
          | zero => cases hp
          | succ q => exact hp
        obtain ⟨i, zv, cs, h1, h2, h3, h4, rfl⟩ := common (fun i => some (i * s, s)) hplace (by intro e; rw [e] at hb; simp at hb) hc
        refine did_value (s := Instr.build T (ps.map fun (i, x) => (i, a.eval x))) hr ?_ h4
        simp only [Instr.build, Sem.run_bind, run_underlying hu, Result.andThen_ok, zeroValue, typeInfo, run_program, h1, h2, Sem.run_pure, run_sizeB hse]
        rw [hps]
        simp only [h3]
        rfl
  · cases hc

end
end Go.AM
end
section
/- Each operation that reads or writes memory: what the abstract machine computes is what the model computes. No condition but that it was compiled. -/
namespace Go.AM

section
variable {ren : FuncId → Option Nat} {P : Program} {ρ : Rho} {B0 nt : Nat} {h : AH} {w : World} {t : Tmps} {a : Act}
variable {dst : Option Tmp} {ty : TypeId} {pos : String} {after : Array Edge} {guard : Option (Nat × Bool)}

theorem idx_ok (n len : Nat) (hlt : Nat.blt n len = true) : (0 : Int) ≤ Int.ofNat n ∧ Int.ofNat n < (len : Int) := by
  have : n < len := by simpa [Nat.blt_eq] using hlt
  exact ⟨Int.natCast_nonneg n, Int.ofNat_lt.2 this⟩

theorem ok_indexAddr (T : TypeId) (x i : Operand) : OpOk ren P ρ B0 nt h w t a ⟨dst, .indexAddr T x i, ty, pos, after, guard⟩ := by
  intro ao v d hc hrun hr ht hf
  simp only [compOp] at hc
  split at hc
  · rename_i e hu
    obtain ⟨es, hs, hc⟩ := bind_some hc
    obtain ⟨x', hx, hc⟩ := bind_some hc
    obtain ⟨i', hi, hc⟩ := bind_some hc
    injection hc with hc; subst hc
    have hx := ht.ev hx
    have hi := ht.ev hi
    simp only [aopD, op_idxa] at hrun
    split at hrun
    · rename_i id off len cap es' k n ex ei
      rw [ex] at hx; rw [ei] at hi
      cases hb : Nat.beq es es' && Nat.blt n len with
      | false => simp [hb] at hrun
      | true =>
        simp only [hb, cond_true] at hrun
        simp only [Bool.and_eq_true] at hb
        injection hrun with hrun; injection hrun with h1 h2; subst h1; subst h2
        have hlt := idx_ok n len hb.2
        have hn : n < len := by simpa [Nat.blt_eq] using hb.2
        have fin : ∀ (o c : Nat) (e0 : RM), a.eval x = .slice (some ⟨e0.blk, o, none⟩) len c → o = e0.sh + off → ρ id = some e0 → Did ren P ρ B0 h w (execOp a.eval ⟨dst, .indexAddr T x i, ty, pos, after, guard⟩) (.ptr id (off + n * es)) (HD.on h .same) := by
          intro o c e0 hx ho he
          refine did_value (s := Instr.indexAt T (a.eval x) (a.eval i)) hr ?_ (.ptr (off := off + n * es) he)
          rw [hx, hi.int_inv]
          simp only [Instr.indexAt, asIntOf, Sem.run_bind, Sem.run_pure, Result.andThen_ok, run_underlying hu]
          rw [if_pos hlt]
          simp only [Sem.run_bind, run_sizeB hs, Result.andThen_ok, Sem.run_pure, addr_add]
          rw [ho]
          simp [Nat.add_assoc]
        generalize hxx : a.eval x = x' at hx
        cases hx with
        | slx he hl ho =>
          rcases ho with rfl | rfl
          · exact fin _ _ _ hxx rfl he
          · omega
        | slo he hl hz ho =>
          rcases ho with rfl | rfl
          · exact fin _ _ _ hxx rfl he
          · omega
    · cases hrun
  · rename_i len e hu
    obtain ⟨es, hs, hc⟩ := bind_some hc
    obtain ⟨x', hx, hc⟩ := bind_some hc
    obtain ⟨i', hi, hc⟩ := bind_some hc
    injection hc with hc; subst hc
    have hx := ht.ev hx
    have hi := ht.ev hi
    simp only [aopD, op_idxp] at hrun
    split at hrun
    · rename_i id off k n ex ei
      rw [ex] at hx; rw [ei] at hi
      cases hb : Nat.blt n len with
      | false => simp [hb] at hrun
      | true =>
        simp only [hb, cond_true] at hrun
        injection hrun with hrun; injection hrun with h1 h2; subst h1; subst h2
        have hlt := idx_ok n len hb
        generalize hxx : a.eval x = x' at hx
        cases hx with
        | ptr he =>
          refine did_value (s := Instr.indexAt T (a.eval x) (a.eval i)) hr ?_ (.ptr (off := off + n * es) he)
          rw [hxx, hi.int_inv]
          simp only [Instr.indexAt, asIntOf, Sem.run_bind, Sem.run_pure, Result.andThen_ok, run_underlying hu, Instr.sureAddr]
          rw [if_pos hlt]
          simp only [Sem.run_bind, run_sizeB hs, Result.andThen_ok, Sem.run_pure, addr_add]
          simp [Nat.add_assoc]
    · cases hrun
  · cases hc

theorem ok_index (T : TypeId) (x i : Operand) : OpOk ren P ρ B0 nt h w t a ⟨dst, .index T x i, ty, pos, after, guard⟩ := by
  intro ao v d hc hrun hr ht hf
  simp only [compOp] at hc
  split at hc
  · rename_i len e hu
    obtain ⟨b, hb, hc⟩ := bind_some hc
    obtain ⟨es, hs, hc⟩ := bind_some hc
    obtain ⟨x', hx, hc⟩ := bind_some hc
    obtain ⟨i', hi, hc⟩ := bind_some hc
    injection hc with hc; subst hc
    have hx := ht.ev hx
    have hi := ht.ev hi
    simp only [aopD, op_idx] at hrun
    split at hrun
    · rename_i l k n ex ei
      rw [ex] at hx; rw [ei] at hi
      cases hlt : Nat.blt n len with
      | false => simp [hlt] at hrun
      | true =>
        simp only [hlt, cond_true] at hrun
        have hlt := idx_ok n len hlt
        generalize hxx : a.eval x = x' at hx
        cases x' <;> (try (cases hx; done))
        rename_i cs
        have hpart : ∃ u, (bif b then (match cut (n * es) es l with | some c => some (.agg c) | none => none) else (match cut (n * es) 1 l with | some [v] => some v | _ => none)) = some u ∧ v = u ∧ d = .same := by
          cases b with
          | true =>
            simp only [cond_true] at hrun ⊢
            split at hrun
            · rename_i c hcut; injection hrun with hrun; injection hrun with h1 h2; exact ⟨_, by first | rw [hcut] | rfl, h1.symm, h2.symm⟩
            · cases hrun
          | false =>
            simp only [cond_false] at hrun ⊢
            split at hrun
            · rename_i c hcut; injection hrun with hrun; injection hrun with h1 h2; exact ⟨_, by first | rw [hcut] | rfl, h1.symm, h2.symm⟩
            · cases hrun
        obtain ⟨u, hu1, rfl, rfl⟩ := hpart
        obtain ⟨v', g1, g2⟩ := part_ok (P := P) (w := w) hb hs hx hu1
        refine did_value (s := Instr.index T (a.eval x) (a.eval i)) hr ?_ g2
        rw [hxx, hi.int_inv]
        simp only [Instr.index, asIntOf, Sem.run_bind, Sem.run_pure, Result.andThen_ok, run_underlying hu]
        rw [if_pos hlt]
        simp only [Sem.run_bind, run_sizeB hs, Result.andThen_ok]
        exact g1
    · cases hrun
  · rename_i hu
    obtain ⟨x', hx, hc⟩ := bind_some hc
    obtain ⟨i', hi, hc⟩ := bind_some hc
    injection hc with hc; subst hc
    have hx := ht.ev hx
    have hi := ht.ev hi
    simp only [aopD, op_idxs] at hrun
    split at hrun
    · rename_i l k n ex ei
      rw [ex] at hx; rw [ei] at hi
      split at hrun
      · rename_i c hcc
        injection hrun with hrun; injection hrun with h1 h2; subst h1; subst h2
        generalize hxx : a.eval x = x' at hx
        cases hx with
        | str s =>
          refine did_value (s := Instr.index T (a.eval x) (a.eval i)) hr (v' := .int .u8 c.toNat) ?_ (.i _ _)
          rw [hxx, hi.int_inv]
          have hs : s[n]? = some c := by
            rw [ByteArray.toList_eq] at hcc
            obtain ⟨⟨d⟩⟩ := s
            have hn : n < d.length := (List.getElem?_eq_some_iff.1 hcc).1
            have hsz : n < (ByteArray.mk ⟨d⟩).size := hn
            rw [getElem?_pos (ByteArray.mk ⟨d⟩) n hsz]
            congr 1
            exact (List.getElem?_eq_some_iff.1 hcc).2
          simp only [Instr.index, asIntOf, Sem.run_bind, Sem.run_pure, Result.andThen_ok, run_underlying hu]
          have h0 : (0 : Int) ≤ Int.ofNat n := Int.natCast_nonneg n
          simp only [h0, if_true]
          show (match s[n]? with | some b => (pure (Value.int .u8 b.toNat) : Sem Value) | none => boundsPanic k (Int.ofNat n) s.size .index).run P w = _
          rw [hs]
          rfl
      · cases hrun
    · cases hrun
  · cases hc

theorem ok_alloc (T : TypeId) : OpOk ren P ρ B0 nt h w t a ⟨dst, .alloc T, ty, pos, after, guard⟩ := by
  intro ao v d hc hrun hr ht hf
  simp only [compOp] at hc
  obtain ⟨z, hz, hc⟩ := bind_some hc
  cases hb : z.flat.isEmpty with
  | true => simp [hb] at hc
  | false =>
    simp only [hb, cond_false] at hc
    injection hc with hc; subst hc
    injection hrun with hrun; injection hrun with h1 h2; subst h1; subst h2
    have hf := hf (Nat.lt_succ_self _)
    obtain ⟨i, zv, k1, k2, k3, k4⟩ := zero_cells (ren := ren) (ρ := ρ) hz (by intro e; rw [e] at hb; simp at hb)
    have hp := new_cells (ren := ren) hr hf k4 T []
    refine did_value' (s := Instr.alloc T true (.tuple #[])) (v' := .pointer (some ⟨w.heap.size, 0, none⟩)) ?_ (.ptr (off := 0) (Rho.upd_same _ _ _)) hp
    simp [Instr.alloc, zeroValue, typeInfo, k1, k2, newVar, newRow]
theorem ok_box (T : TypeId) (x : Operand) : OpOk ren P ρ B0 nt h w t a ⟨dst, .box T x, ty, pos, after, guard⟩ := by
  intro ao v d hc hrun hr ht hf
  simp only [compOp] at hc
  obtain ⟨s, hs, hc⟩ := bind_some hc
  cases hb : Nat.beq s 0 with
  | true => simp [hb] at hc
  | false =>
    simp only [hb, cond_false] at hc
    obtain ⟨y, hy, hc⟩ := bind_some hc
    injection hc with hc; subst hc
    have hv := ht.ev hy
    simp only [aopD, op_box] at hrun
    cases hl : Nat.beq (y.ev t).flat.length s with
    | false => simp [hl] at hrun
    | true =>
      simp only [hl, cond_true] at hrun
      injection hrun with hrun; injection hrun with h1 h2; subst h1; subst h2
      have hf := hf (Nat.lt_succ_self _)
      have hlen := Nat.eq_of_beq_eq_true hl
      obtain ⟨f1, f2⟩ := hv.flat (by intro e; rw [e] at hlen; simp at hlen; subst hlen; simp at hb)
      have hp := new_cells (ren := ren) hr hf ⟨f1, f2⟩ T []
      refine did_value' (s := Instr.box T (a.eval x)) (v' := .pointer (some ⟨w.heap.size, 0, none⟩)) ?_ (.ptr (off := 0) (Rho.upd_same _ _ _)) hp
      simp [Instr.box, newVar, newRow]
theorem execOp_buildSlice (σ : Operand → Value) (T : TypeId) (len : Nat) (ps : Array (Nat × Operand)) :
    execOp σ ⟨dst, .buildSlice T len ps, ty, pos, after, guard⟩ = (do pure (Next.value (← Instr.buildSlice T len (ps.map fun (x : Nat × Operand) => (x.1, σ x.2))))) := rfl
theorem ok_buildSlice (T : TypeId) (len : Nat) (ps : Array (Nat × Operand)) : OpOk ren P ρ B0 nt h w t a ⟨dst, .buildSlice T len ps, ty, pos, after, guard⟩ := by
  intro ao v d hc hrun hr ht hf
  simp only [compOp] at hc
  split at hc
  · rename_i e hu
    obtain ⟨s, hs, hc⟩ := bind_some hc
    obtain ⟨z, hz, hc⟩ := bind_some hc
    obtain ⟨qs, hq, hc⟩ := bind_some hc
    cases hb : Nat.beq z.flat.length s && !Nat.beq s 0 && Nat.ble (len * s) 16777216 with
    | false => rw [hb] at hc; cases hc
    | true =>
      rw [hb, cond_true] at hc
      injection hc with hc; subst hc
      simp only [Bool.and_eq_true, Bool.not_eq_true'] at hb
      obtain ⟨⟨hb1, hb2⟩, hb3⟩ := hb
      have hzl := Nat.eq_of_beq_eq_true hb1
      have hs0 : s ≠ 0 := by intro e; subst e; simp at hb2
      obtain ⟨i, zv, k1, k2, k3, k4⟩ := zero_cells (ren := ren) (ρ := ρ) hz (by intro e; rw [e] at hzl; simp at hzl; omega)
      have hzs : zv.cells.size = s := by have := k4.1.1; simp at this; omega
      simp only [aopD, op_bsl] at hrun
      split at hrun
      · rename_i c hfill
        injection hrun with hrun; injection hrun with h1 h2; subst h1; subst h2
        have hf := hf (Nat.lt_succ_self _)
        have hrep := rep_ok k4 len
        rw [← range_mod, hzs] at hrep
        have hplace : ∀ i o s', placeB P T i = some (o, s') → (fun i => some (i * s, s)) i = some (o, s') := fun i o s' hp => by
          unfold placeB at hp
          rw [hu] at hp
          simp only [hs] at hp
          cases s with
          | zero => cases hp
          | succ q => exact hp
        obtain ⟨c', g1, g2⟩ := fill_ok (fun i => some (i * s, s)) T hplace ht _ _ _ _ _ hq hfill hrep
        have hp := new_cells (ren := ren) hr hf g2 e []
        have hps : (ps.map fun (x : Nat × Operand) => (x.1, a.eval x.2)).toList = ps.toList.map fun (i, x) => (i, a.eval x) := by simp
        have hbig : ¬ (16777216 < len * s) := by have := Nat.le_of_ble_eq_true hb3; omega
        have hg1 : Instr.fill (fun i => some (i * s, s)) ((Array.range (len * s)).map (fun i => zv.cells[i % zv.cells.size]!)) (ps.map fun (x : Nat × Operand) => (x.1, a.eval x.2)).toList = some c' := by
          rw [hps, hzs]; exact g1
        have hrun' : (Instr.buildSlice T len (ps.map fun (x : Nat × Operand) => (x.1, a.eval x.2))).run P w = .ok (.slice (some ⟨w.heap.size, 0, none⟩) len len) (w.alloc (.cells (c'.toList ++ []).toArray e)) := by
          have hb24 : ¬ (len * s > 2 ^ 24) := by
            rw [show (2 : Nat) ^ 24 = 16777216 from rfl]; omega
          have hmk : ∀ zz : Array Value, (Array.range (len * s)).map (fun i => zz[i % zz.size]!) = (Array.range (len * s)).map (fun i => zv.cells[i % zv.cells.size]!) →
              (match Instr.fill (fun i => some (i * s, s)) ((Array.range (len * s)).map (fun i => zz[i % zz.size]!)) (ps.map fun (x : Nat × Operand) => (x.1, a.eval x.2)).toList with
                | some cells => (do pure (Value.slice (some (← newRow e cells)) len len) : Sem Value)
                | _ => stuck "buildSlice: a part of the wrong size").run P w = .ok (.slice (some ⟨w.heap.size, 0, none⟩) len len) (w.alloc (.cells (c'.toList ++ []).toArray e)) := fun zz hz => by
            rw [hz, hg1]
            simp [newRow]
          unfold Instr.buildSlice
          simp only [Sem.run_bind, run_underlying hu, Result.andThen_ok, run_sizeB hs]
          rw [if_neg hb24]
          by_cases h0 : len * s = 0
          · rw [if_pos h0]
            exact hmk #[] (by rw [h0]; simp)
          · rw [if_neg h0]
            simp only [Sem.run_bind, zeroValue, typeInfo, run_program, Result.andThen_ok, k1, k2, Sem.run_pure]
            exact hmk zv.cells rfl
        exact ⟨.value (.slice (some ⟨w.heap.size, 0, none⟩) len len), _, _, _, by rw [execOp_buildSlice, Sem.run_bind, hrun']; rfl, .inl rfl, .slx (Rho.upd_same _ _ _) (Nat.le_refl _) (.inl rfl), hp⟩
      · cases hrun
  · cases hc

end
end Go.AM
end
section
/- Loads, stores, maps, append, make, len, min, max: what the abstract machine computes is what the model computes. No condition but that it was compiled. -/
namespace Go.AM

section
variable {ren : FuncId → Option Nat} {P : Program} {ρ : Rho} {B0 nt : Nat} {h : AH} {w : World} {t : Tmps} {a : Act}
variable {dst : Option Tmp} {ty : TypeId} {pos : String} {after : Array Edge} {guard : Option (Nat × Bool)}

theorem ok_load (T : TypeId) (x : Operand) : OpOk ren P ρ B0 nt h w t a ⟨dst, .load T x, ty, pos, after, guard⟩ := by
  intro ao v d hc hrun hr ht hf
  simp only [compOp] at hc
  obtain ⟨y, hy, hc⟩ := bind_some hc
  have hv := ht.ev hy
  split at hc
  · rename_i hb
    obtain ⟨s, hs, hc⟩ := bind_some hc
    injection hc with hc; subst hc
    simp only [aopD, op_ldn] at hrun
    split at hrun
    · rename_i l hl
      injection hrun with hrun; injection hrun with h1 h2; subst h1; subst h2
      obtain ⟨ad, cs, g1, g2, g3, g4⟩ := loadN_ok hr hv hl
      refine did_value (s := Instr.loadAt T (a.eval x)) hr (v' := .agg cs.toArray) ?_ g4.agg
      have hlc := run_loadCells_list (P := P) w ad cs g3
      rw [g2] at hlc
      rw [g1]
      simp [Instr.loadAt, Instr.sureAddr, loadVar, run_aggB hb, run_sizeB hs, hlc]
    · cases hrun
  · rename_i hb
    injection hc with hc; subst hc
    simp only [aopD, op_ld] at hrun
    split at hrun
    · rename_i u hl
      injection hrun with hrun; injection hrun with h1 h2; subst h1; subst h2
      obtain ⟨ad, cs, g1, g2, g3, g4⟩ := loadN_ok hr hv hl
      obtain ⟨z, rfl, hz⟩ := VRL.single rfl g4.1
      refine did_value (s := Instr.loadAt T (a.eval x)) hr (v' := z) ?_ hz
      have := run_load_one (P := P) g3
      rw [g1]
      simp only [Instr.loadAt, Instr.sureAddr, Sem.run_bind, Sem.run_pure, Result.andThen_ok, loadVar, run_aggB hb, Bool.false_eq_true, if_false]
      exact this
    · cases hrun
  · cases hc

theorem ok_store (T : TypeId) (x y : Operand) : OpOk ren P ρ B0 nt h w t a ⟨dst, .store T x y, ty, pos, after, guard⟩ := by
  intro ao v d hc hrun hr ht hf
  simp only [compOp] at hc
  obtain ⟨s, hs, hc⟩ := bind_some hc
  cases hb0 : Nat.beq s 0 with
  | true => simp [hb0] at hc
  | false =>
  simp only [hb0, cond_false] at hc
  obtain ⟨x', hx, hc⟩ := bind_some hc
  obtain ⟨y', hy, hc⟩ := bind_some hc
  injection hc with hc; subst hc
  have hx := ht.ev hx
  have hy := ht.ev hy
  simp only [aopD, op_st] at hrun
  split at hrun
  · rename_i id off ex; rw [ex] at hx
    split at hrun
    · rename_i vs hg
      cases hl : Nat.beq (y'.ev t).flat.length s with
      | false => simp [hl] at hrun
      | true =>
        simp only [hl, cond_true] at hrun
        have hlen := Nat.eq_of_beq_eq_true hl
        split at hrun
        · rename_i vs' hsp
          injection hrun with hrun; injection hrun with h1 h2; subst h1; subst h2
          generalize hxx : a.eval x = xx at hx
          cases hx with
          | ptr he =>
            rename_i e0
            have hne : (y'.ev t).flat ≠ [] := by intro e; rw [e] at hlen; simp at hlen; subst hlen; simp at hb0
            obtain ⟨f1, f2⟩ := hy.flat hne
            obtain ⟨w1, w2, w3, w4⟩ := write_cells hr hg he ⟨f1, f2⟩ hsp
            have hst := run_storeCells_cells (P := P) e0.blk (e0.sh + off) (a.eval y).cells.toList 0 w (by simpa using w1) (by simpa using w2) w3
            have hsz : (a.eval y).cells.size = s := by have := f1.1; simp at this; omega
            refine did_unit (s := Instr.storeAt T (a.eval x) (a.eval y)) ?_ w4
            rw [hxx]
            simp only [Instr.storeAt, Instr.sureAddr, Sem.run_bind, Sem.run_pure, Result.andThen_ok, storeVar, run_sizeB hs]
            rw [if_neg (by simp [hsz])]
            exact hst
        · cases hrun
    · cases hrun
  · cases hrun

theorem ok_makeMap (T : TypeId) : OpOk ren P ρ B0 nt h w t a ⟨dst, .makeMap T none, ty, pos, after, guard⟩ := by
  intro ao v d hc hrun hr ht hf
  injection hc with hc; subst hc
  injection hrun with hrun; injection hrun with h1 h2; subst h1; subst h2
  have hf := hf (Nat.lt_succ_self _)
  have hp := Post.add (ren := ren) hr hf (.map []) (.map #[] 0) 0 0 ⟨#[], 0, by show (w.heap.push _)[w.heap.size]? = _; simp, hr.base, rfl, fun j k v x hx _ => by simp at hx⟩
  refine did_value' (s := Instr.makeMap T none) (v' := .map (some w.heap.size)) ?_ (.mp (Rho.upd_same _ _ _)) hp
  simp [Instr.makeMap]

theorem zeroB_rel {T : TypeId} {z : AV} (hz : zeroB P T = some z) : ∃ i zv, P.info? T = some i ∧ i.zero = some zv ∧ VR ren ρ z zv := by
  obtain ⟨i, zv, h1, h2, h3⟩ := zeroB_ok hz
  exact ⟨i, zv, h1, h2, cv_rel ρ h3⟩

theorem pair_rel {x : AV} {x' : Value} (hx : VR ren ρ x x') (b : Bool) : VR ren ρ (.tup [x, .b b]) (.tuple #[x', .bool b]) := by
  refine .tup rfl (fun j u v hu hv => ?_)
  match j with
  | 0 => simp at hu hv; subst hu; subst hv; exact hx
  | 1 => simp at hu hv; subst hu; subst hv; exact .b _
  | j + 2 => simp at hu

theorem map_obj (hr : HR ren ρ B0 h w) {id : Nat} {es : List (AV × AV)} (hg : h.get id = some (.map es)) {e : RM} (he : ρ id = some e) : ∃ en ck, w.heap[e.blk]? = some (.map en ck) ∧ B0 ≤ e.blk ∧ ER ren ρ es en.toList := by
  obtain ⟨e', he', en, ck, h1, h2, h3, h4⟩ := hr.obj id _ hg rfl
  rw [he] at he'; injection he' with he'; subst he'
  exact ⟨en, ck, h1, h2, by simpa using h3, fun j k v x hx hy => h4 j k v x hx (by simpa using hy)⟩

theorem run_getMap {r : Nat} {en : Array MapEntry} {ck : Nat} (hh : w.heap[r]? = some (.map en ck)) : (getObj r).run P w = .ok (.map en ck) w := by
  simp [getObj, Sem.run, hh]
theorem run_setMap {r : Nat} {en : Array MapEntry} {ck : Nat} (hh : w.heap[r]? = some (.map en ck)) (o : Obj) : (setObj r o).run P w = .ok () { w with heap := w.heap.setIfInBounds r o } := by
  simp [setObj, Sem.run, hh]

def lookVal (ok : Bool) (x : Value) (b : Bool) : Value := if ok then .tuple #[x, .bool b] else x
theorem lookVal_rel {x : AV} {x' : Value} (hx : VR ren ρ x x') (ok b : Bool) : VR ren ρ (bif ok then .tup [x, .b b] else x) (lookVal ok x' b) := by
  cases ok with
  | false => exact hx
  | true => exact pair_rel hx b

theorem run_lookup_nil {T kt e : TypeId} {q : EqT} (hu : P.underlying T = some (.map kt e)) (hq : keyB P kt = some q) {k : AV} {k' zv : Value} (hok : keyOk q k = true) (hk : VR ren ρ k k') (hz : (zeroValue e).run P w = .ok zv w) (ok : Bool) :
    (Instr.lookup T (.map none) k' ok).run P w = .ok (lookVal ok zv false) w := by
  have hck := run_checkKey_ok (P := P) w hq hok hk true 9998
  obtain ⟨f, g1, g2⟩ := run_findKey_loc (P := P) w hq hok hk (es := []) (en := []) (r := none) ⟨rfl, fun j k v x hx _ => by simp at hx⟩ rfl
  have g2 : f = none := g2
  subst g2
  simp only [Instr.lookup, Sem.run_bind, run_underlying hu, Result.andThen_ok, Sem.run_pure]
  rw [show (#[] : Array MapEntry).isEmpty = true from rfl, show (10000 : Nat) = 9998 + 2 from rfl, hck]
  simp only [Result.andThen_ok, Array.toList_empty]
  rw [g1]
  simp only [Result.andThen_ok, Sem.run_bind, hz, Sem.run_pure]
  rfl
theorem run_lookup_map {T kt e : TypeId} {q : EqT} (hu : P.underlying T = some (.map kt e)) (hq : keyB P kt = some q) {k : AV} {k' zv : Value} (hok : keyOk q k = true) (hk : VR ren ρ k k') (hz : (zeroValue e).run P w = .ok zv w) (ok : Bool)
    {r : Nat} {en : Array MapEntry} {ck : Nat} (hh : w.heap[r]? = some (.map en ck)) {es : List (AV × AV)} (her : ER ren ρ es en.toList) {o : Option Nat} (hm : mloc k es 0 = some o) :
    (o = none → (Instr.lookup T (.map (some r)) k' ok).run P w = .ok (lookVal ok zv false) w) ∧
    (∀ p, o = some p → ∃ x, en[p]? = some x ∧ (Instr.lookup T (.map (some r)) k' ok).run P w = .ok (lookVal ok x.val true) w) := by
  have hck := run_checkKey_ok (P := P) w hq hok hk en.isEmpty 9998
  obtain ⟨f, g1, g2⟩ := run_findKey_loc (P := P) w hq hok hk her hm
  have start : (Instr.lookup T (.map (some r)) k' ok).run P w = (do
      let (v, ok') ← match f with
        | some (_, v) => (pure (v, true) : Sem (Value × Bool))
        | none => do pure (← zeroValue e, false)
      pure (if ok then .tuple #[v, .bool ok'] else v) : Sem Value).run P w := by
    simp only [Instr.lookup, Sem.run_bind, run_underlying hu, Result.andThen_ok, run_getMap hh, Sem.run_pure]
    rw [show (10000 : Nat) = 9998 + 2 from rfl, hck]
    simp only [Result.andThen_ok]
    rw [g1]
    cases f <;> rfl
  refine ⟨fun ho => ?_, fun p ho => ?_⟩
  · subst ho
    have g2 : f = none := g2
    subst g2
    rw [start]
    simp only [Sem.run_bind, hz, Result.andThen_ok, Sem.run_pure]
    rfl
  · subst ho
    obtain ⟨_, x, hx, rfl⟩ := g2
    exact ⟨x, by simpa using hx, by rw [start]; rfl⟩

theorem ok_lookup (T : TypeId) (m k : Operand) (ok : Bool) : OpOk ren P ρ B0 nt h w t a ⟨dst, .lookup T m k ok, ty, pos, after, guard⟩ := by
  intro ao v d hc hrun hr ht hf
  simp only [compOp] at hc
  split at hc
  · rename_i kt e hu
    obtain ⟨z, hz, hc⟩ := bind_some hc
    obtain ⟨q, hq, hc⟩ := bind_some hc
    obtain ⟨m', hm, hc⟩ := bind_some hc
    obtain ⟨k', hk, hc⟩ := bind_some hc
    injection hc with hc; subst hc
    have hm := ht.ev hm
    have hk := ht.ev hk
    obtain ⟨i, zv, k1, k2, k3⟩ := zeroB_rel (ren := ren) (ρ := ρ) hz
    have zrun : (zeroValue e).run P w = .ok zv w := by simp [zeroValue, typeInfo, k1, k2]
    simp only [aopD, op_lookup] at hrun
    cases hok : keyOk q (k'.ev t) with
    | false => simp [hok] at hrun
    | true =>
      simp only [hok, cond_true] at hrun
      split at hrun
      · rename_i em; rw [em] at hm
        injection hrun with hrun; injection hrun with h1 h2; subst h1; subst h2
        generalize hmm : a.eval m = mm at hm
        cases hm
        refine did_value (s := Instr.lookup T (a.eval m) (a.eval k) ok) hr ?_ (lookVal_rel k3 ok false)
        rw [hmm]
        exact run_lookup_nil hu hq hok hk zrun ok
      · rename_i id em; rw [em] at hm
        generalize hmm : a.eval m = mm at hm
        cases hm with
        | mp he =>
          split at hrun
          · rename_i es hg
            obtain ⟨en, ck, o1, o2, o3⟩ := map_obj hr hg he
            split at hrun
            · rename_i p hloc
              obtain ⟨x, hx, hrn⟩ := (run_lookup_map hu hq hok hk zrun ok o1 o3 hloc).2 p rfl
              split at hrun
              · rename_i kk vv hes
                injection hrun with hrun; injection hrun with h1 h2; subst h1; subst h2
                refine did_value (s := Instr.lookup T (a.eval m) (a.eval k) ok) hr ?_ (lookVal_rel (o3.2 p kk vv x hes (by simpa using hx)).2 ok true)
                rw [hmm]
                exact hrn
              · cases hrun
            · rename_i hloc
              injection hrun with hrun; injection hrun with h1 h2; subst h1; subst h2
              refine did_value (s := Instr.lookup T (a.eval m) (a.eval k) ok) hr ?_ (lookVal_rel k3 ok false)
              rw [hmm]
              exact (run_lookup_map hu hq hok hk zrun ok o1 o3 hloc).1 rfl
            · cases hrun
          · cases hrun
      · cases hrun
  · cases hc

theorem mapup_ok {T kt e : TypeId} {m k x : Operand} {q : EqT} {m' k' x' : AX} (hu : P.underlying T = some (.map kt e)) (hq : keyB P kt = some q) (hr : HR ren ρ B0 h w)
    (hm : VR ren ρ (m'.ev t) (a.eval m)) (hk : VR ren ρ (k'.ev t) (a.eval k)) (hx : VR ren ρ (x'.ev t) (a.eval x)) {v : AV} {d : HD} (hrun : aopD t h (.mapup q m' k' x') = some (v, d)) :
    Did ren P ρ B0 h w (do Instr.mapUpdate T (a.eval m) (a.eval k) (a.eval x); pure Next.skip) v (d.on h) := by
  simp only [aopD, op_mapup] at hrun
  cases hok : keyOk q (k'.ev t) with
  | false => simp [hok] at hrun
  | true =>
    simp only [hok, cond_true] at hrun
    split at hrun
    · rename_i id em; rw [em] at hm
      generalize hmm : a.eval m = mm at hm ⊢
      cases hm with
      | mp he =>
        rename_i e0
        split at hrun
        · rename_i es hg
          obtain ⟨en, ck, o1, o2, o3⟩ := map_obj hr hg he
          have hck := run_checkKey_ok (P := P) w hq hok hk false 9998
          have oth : ∀ (o : Obj) b, b ≠ e0.blk → ({ w with heap := w.heap.setIfInBounds e0.blk o } : World).heap[b]? = w.heap[b]? := fun o b hb => by
            show (w.heap.setIfInBounds e0.blk o)[b]? = _
            rw [Array.getElem?_setIfInBounds_ne (Ne.symm hb)]
          have hlt : e0.blk < w.heap.size := (Array.getElem?_eq_some_iff.1 o1).1
          have same : ∀ o : Obj, ({ w with heap := w.heap.setIfInBounds e0.blk o } : World).heap[e0.blk]? = some o := fun o => by
            show (w.heap.setIfInBounds e0.blk o)[e0.blk]? = _
            simp [hlt]
          have hsz : ∀ o : Obj, ({ w with heap := w.heap.setIfInBounds e0.blk o } : World).heap.size = w.heap.size := fun o => by simp
          split at hrun
          · rename_i p hloc
            injection hrun with hrun; injection hrun with h1 h2; subst h1; subst h2
            obtain ⟨f, g1, g2⟩ := run_findKey_loc (P := P) w hq hok hk o3 hloc
            obtain ⟨_, xe, hxe, rfl⟩ := g2
            have hxe' : en[p]? = some xe := by simpa using hxe
            -- the key that was there is the same one
            have hes : ∃ kk vv, es[p]? = some (kk, vv) ∧ keq (k'.ev t) kk = some true := by
              have loc : ∀ (l : List (AV × AV)) (i : Nat), mloc (k'.ev t) l i = some (some p) → i ≤ p ∧ ∃ kk vv, l[p - i]? = some (kk, vv) ∧ keq (k'.ev t) kk = some true := by
                intro l
                induction l with
                | nil => intro i hl; simp [mloc] at hl
                | cons y l ih =>
                  intro i hl
                  obtain ⟨kk, vv⟩ := y
                  simp only [mloc] at hl
                  split at hl
                  · rename_i hq'; injection hl with hl; injection hl with hl; subst hl; exact ⟨Nat.le_refl _, kk, vv, by simp, hq'⟩
                  · obtain ⟨h1, kk', vv', h2, h3⟩ := ih (i + 1) hl
                    exact ⟨by omega, kk', vv', by rw [show p - i = (p - (i + 1)) + 1 from by omega]; simpa using h2, h3⟩
                  · cases hl
              exact (loc es 0 hloc).2
            obtain ⟨kk, vv, hes1, hes2⟩ := hes
            have hkk := keq_true hes2
            have hold := (o3.2 p kk vv xe hes1 (by simpa using hxe')).1
            rw [← hkk] at hold
            have hsame : xe.key = a.eval k := key_unique hok hold hk
            have stays : (Instr.keyThatStays (((en[p]?).map (·.key)).getD (a.eval k)) (a.eval k)).run P w = .ok (a.eval k) w := by
              rw [hxe', Option.map_some, Option.getD_some, hsame, Instr.keyThatStays, if_pos (sameBits_key hok hk 9999)]
              rfl
            refine did_unit (w' := { w with heap := w.heap.setIfInBounds e0.blk (.map (en.modify p fun y => { y with key := a.eval k, val := a.eval x }) ck) }) ?_ (Post.put hr hg rfl he rfl rfl ⟨rfl, rfl⟩ (hsz _) (oth _) ⟨_, ck, same _, o2, by simp; exact o3.1, fun j k1 v1 y hj hy => ?_⟩)
            · simp only [Instr.mapUpdate, Sem.run_bind, run_underlying hu, Result.andThen_ok, run_getMap o1]
              rw [show (10000 : Nat) = 9998 + 2 from rfl, hck]
              simp only [Result.andThen_ok]
              rw [g1]
              simp only [Result.andThen_ok, Sem.run_bind]
              rw [stays]
              simp only [Result.andThen_ok]
              rw [run_setMap o1]
            · rw [List.getElem?_set] at hj
              rw [Array.getElem?_modify] at hy
              by_cases c : p = j
              · subst c
                have hpl : p < es.length := (List.getElem?_eq_some_iff.1 hes1).1
                rw [if_pos rfl, if_pos hpl] at hj
                injection hj with hj; injection hj with hj1 hj2; subst hj1; subst hj2
                rw [if_pos rfl, hxe'] at hy
                simp at hy; subst hy
                exact ⟨hk, hx⟩
              · rw [if_neg c] at hj hy
                exact o3.2 j k1 v1 y hj (by simpa using hy)
          · rename_i hloc
            injection hrun with hrun; injection hrun with h1 h2; subst h1; subst h2
            obtain ⟨f, g1, g2⟩ := run_findKey_loc (P := P) w hq hok hk o3 hloc
            have g2 : f = none := g2
            subst g2
            refine did_unit (w' := { w with heap := w.heap.setIfInBounds e0.blk (.map (en.push { key := a.eval k, val := a.eval x, born := ck }) (ck + 1)) }) ?_ (Post.put hr hg rfl he rfl rfl ⟨rfl, rfl⟩ (hsz _) (oth _) ⟨_, ck + 1, same _, o2, by have := o3.1; simp at this ⊢; omega, fun j k1 v1 y hj hy => ?_⟩)
            · simp only [Instr.mapUpdate, Sem.run_bind, run_underlying hu, Result.andThen_ok, run_getMap o1]
              rw [show (10000 : Nat) = 9998 + 2 from rfl, hck]
              simp only [Result.andThen_ok]
              rw [g1]
              simp only [Result.andThen_ok]
              rw [run_setMap o1]
            · have hln : es.length = en.size := by have := o3.1; simpa using this
              rw [Array.getElem?_push] at hy
              by_cases c : j = en.size
              · rw [if_pos c] at hy
                rw [List.getElem?_append_right (by omega), show j - es.length = 0 from by omega] at hj
                simp at hj; injection hy with hy
                obtain ⟨rfl, rfl⟩ := hj
                subst hy
                exact ⟨hk, hx⟩
              · rw [if_neg c] at hy
                have hjl : j < en.size := (Array.getElem?_eq_some_iff.1 hy).1
                rw [List.getElem?_append_left (by omega)] at hj
                exact o3.2 j k1 v1 y hj (by simpa using hy)
          · cases hrun
        · cases hrun
    · cases hrun

theorem ok_mapUpdate (T : TypeId) (m k x : Operand) : OpOk ren P ρ B0 nt h w t a ⟨dst, .mapUpdate T m k x, ty, pos, after, guard⟩ := by
  intro ao v d hc hrun hr ht hf
  simp only [compOp] at hc
  split at hc
  · rename_i kt e hu
    obtain ⟨q, hq, hc⟩ := bind_some hc
    obtain ⟨m', hm, hc⟩ := bind_some hc
    obtain ⟨k', hk, hc⟩ := bind_some hc
    obtain ⟨x', hx, hc⟩ := bind_some hc
    injection hc with hc; subst hc
    exact mapup_ok hu hq hr (ht.ev hm) (ht.ev hk) (ht.ev hx) hrun
  · cases hc
theorem ok_insert (T : TypeId) (m k x : Operand) : OpOk ren P ρ B0 nt h w t a ⟨dst, .insert T m k x, ty, pos, after, guard⟩ := by
  intro ao v d hc hrun hr ht hf
  simp only [compOp] at hc
  split at hc
  · rename_i kt e hu
    obtain ⟨q, hq, hc⟩ := bind_some hc
    obtain ⟨m', hm, hc⟩ := bind_some hc
    obtain ⟨k', hk, hc⟩ := bind_some hc
    obtain ⟨x', hx, hc⟩ := bind_some hc
    injection hc with hc; subst hc
    exact mapup_ok hu hq hr (ht.ev hm) (ht.ev hk) (ht.ev hx) hrun
  · cases hc

end
end Go.AM
end
section
/- Make, append, len, min, max: what the abstract machine computes is what the model computes. No condition but that it was compiled. -/
namespace Go.AM

section
variable {ren : FuncId → Option Nat} {P : Program} {ρ : Rho} {B0 nt : Nat} {h : AH} {w : World} {t : Tmps} {a : Act}
variable {dst : Option Tmp} {ty : TypeId} {pos : String} {after : Array Edge} {guard : Option (Nat × Bool)}

theorem wrap_nat (n : Nat) (hn : n ≤ 140737488355328) : IntKind.i64.wrap (Int.ofNat n) = Int.ofNat n := wrap_ofNat n (by omega)

theorem ok_makeSlice (T : TypeId) (l c : Operand) : OpOk ren P ρ B0 nt h w t a ⟨dst, .makeSlice T l c, ty, pos, after, guard⟩ := by
  intro ao v d hc hrun hr ht hf
  simp only [compOp] at hc
  split at hc
  · rename_i e hu
    obtain ⟨s, hs, hc⟩ := bind_some hc
    obtain ⟨z, hz, hc⟩ := bind_some hc
    cases hb : Nat.beq z.flat.length s && !Nat.beq s 0 with
    | false => rw [hb] at hc; cases hc
    | true =>
      rw [hb, cond_true] at hc
      obtain ⟨by_, hby, hc⟩ := bind_some hc
      obtain ⟨l', hl, hc⟩ := bind_some hc
      obtain ⟨c', hcc, hc⟩ := bind_some hc
      injection hc with hc; subst hc
      simp only [Bool.and_eq_true, Bool.not_eq_true'] at hb
      have hzl := Nat.eq_of_beq_eq_true hb.1
      have hs0 : s ≠ 0 := by intro e; rw [e] at hb; simp at hb
      obtain ⟨i, zv, k1, k2, k3, k4⟩ := zero_cells (ren := ren) (ρ := ρ) hz (by intro e; rw [e] at hzl; simp at hzl; omega)
      have hzs : zv.cells.size = s := by have := k4.1.1; simp at this; omega
      have hbi : i.bytes = by_ := by
        unfold bytesB at hby
        rw [k1] at hby; injection hby
      have hl := ht.ev hl
      have hcv := ht.ev hcc
      simp only [aopD, op_mks] at hrun
      split at hrun
      · rename_i kl ln kc cn el ec
        rw [el] at hl; rw [ec] at hcv
        cases hb2 : Nat.ble ln cn && Nat.ble (by_ * cn) 140737488355328 && Nat.ble cn 140737488355328 with
        | false => rw [hb2] at hrun; cases hrun
        | true =>
          rw [hb2, cond_true] at hrun
          simp only [Bool.and_eq_true] at hb2
          obtain ⟨⟨q1, q2⟩, q3⟩ := hb2
          have q1 := Nat.le_of_ble_eq_true q1
          have q2 := Nat.le_of_ble_eq_true q2
          have q3 := Nat.le_of_ble_eq_true q3
          injection hrun with hrun; injection hrun with h1 h2; subst h1; subst h2
          have hf := hf (Nat.lt_succ_self _)
          have hrep := rep_ok k4 cn
          rw [← range_mod, hzs] at hrep
          have hp := new_cells (ren := ren) hr hf hrep e []
          refine did_value' (s := Instr.makeSlice T (a.eval l) (a.eval c)) (v' := .slice (some ⟨w.heap.size, 0, none⟩) ln cn) ?_ (.slx (Rho.upd_same _ _ _) q1 (.inl rfl)) hp
          rw [hl.int_inv, hcv.int_inv]
          have b1 : ¬ ((by_ : Int) * Int.ofNat cn > 2 ^ 48) := by
            have : ((by_ * cn : Nat) : Int) ≤ ((140737488355328 : Nat) : Int) := Int.ofNat_le.2 q2
            rw [Int.natCast_mul] at this
            show ¬ ((by_ : Int) * (cn : Int) > 281474976710656)
            have : ((140737488355328 : Nat) : Int) = 140737488355328 := rfl
            omega
          have b2 : ¬ (Int.ofNat cn < 0) := by show ¬ ((cn : Int) < 0); omega
          have b3 : ¬ (Int.ofNat ln < 0) := by show ¬ ((ln : Int) < 0); omega
          have b4 : ¬ (Int.ofNat ln > Int.ofNat cn) := by show ¬ ((ln : Int) > (cn : Int)); omega
          have tn : ∀ n : Nat, (Int.ofNat n).toNat = n := fun _ => rfl
          have r0 : Array.range 0 = #[] := rfl
          unfold Instr.makeSlice
          simp only [Sem.run_bind, run_underlying hu, Result.andThen_ok, asInt, asIntOf, Sem.run_pure, typeInfo, run_program, k1, wrap_nat ln (by omega), wrap_nat cn q3, hbi]
          rw [if_neg (by simp only [decide_eq_false b1, decide_eq_false b2, decide_eq_false b3, decide_eq_false b4]; simp)]
          simp only [Sem.run_bind, run_askRoom, Result.andThen_ok, run_sizeB hs, tn]
          by_cases h0 : cn * s = 0
          · have : cn = 0 := by rcases Nat.mul_eq_zero.1 h0 with h | h
                                · exact h
                                · exact absurd h hs0
            subst this
            simp [newRow, r0]
          · rw [if_neg h0]
            have hz2 : (Array.range (cn * s)).map (fun i => zv.cells[i % zv.cells.size]!) = (Array.range (cn * s)).map (fun i => zv.cells[i % s]!) := by rw [hzs]
            simp only [Sem.run_bind, zeroValue, typeInfo, run_program, Result.andThen_ok, k1, k2, Sem.run_pure]
            rw [hz2]
            simp [newRow]
            congr 2
            apply Array.ext'
            simp
      · cases hrun
  · cases hc

theorem execOp_builtin (b : Builtin) (args : Array Operand) (ts : Array TypeId) : ∃ consts, execOp a.eval ⟨dst, .call { callee := .builtin b, args := args, argTypes := ts }, ty, pos, after, guard⟩ = (do pure { target := .builtin b ts ty consts, args := args.map a.eval : Deferred } : Sem Deferred) >>= fun d => invoke d.target d.args :=
  ⟨_, rfl⟩

theorem elems_ok (hr : HR ren ρ B0 h w) {es : Nat} {x : AV} {x' : Value} (hx : VR ren ρ x x') {l : List AV} (hl : elems h es x = some l) :
    (x = .nils ∧ x' = .slice none 0 0 ∧ l = []) ∨ ∃ id off n cap ad c ns, x = .sl id off n cap es ∧ x' = .slice (some ad) n c ∧ n ≤ c ∧ ns.length = n * es ∧ (∀ j v, ns[j]? = some v → w.cell? (ad.add j) = some v) ∧ CL ren ρ l ns := by
  unfold elems at hl
  split at hl
  · cases hx; injection hl with hl; subst hl; exact .inl ⟨rfl, rfl, rfl⟩
  · rename_i id off n cap es'
    cases hb : Nat.beq es es' with
    | false => simp [hb] at hl
    | true =>
      have he := Nat.eq_of_beq_eq_true hb
      subst he
      simp only [hb, cond_true] at hl
      split at hl
      · rename_i hg
        right
        have fin : ∀ {e0 : RM} {o c : Nat}, ρ id = some e0 → n ≤ c → (o = e0.sh + off ∨ c = 0) → ∃ ns, ns.length = n * es ∧ (∀ j v, ns[j]? = some v → w.cell? ((⟨e0.blk, o, none⟩ : Addr).add j) = some v) ∧ CL ren ρ l ns := by
          intro e0 o c he hnc ho
          obtain ⟨ns, g1, g2, g3⟩ := read_cells hr hg he hl
          rcases ho with rfl | rfl
          · exact ⟨ns, g1, g2, g3⟩
          · have hn : n = 0 := by omega
            subst hn
            simp at g1
            subst g1
            exact ⟨[], by simp, fun j v hv => by simp at hv, g3⟩
        cases hx with
        | slx he hnc ho =>
          obtain ⟨ns, g1, g2, g3⟩ := fin he hnc ho
          exact ⟨id, off, n, _, _, _, ns, rfl, rfl, hnc, g1, g2, g3⟩
        | slo he hnc hz ho =>
          obtain ⟨ns, g1, g2, g3⟩ := fin he hnc ho
          exact ⟨id, off, n, _, _, _, ns, rfl, rfl, hnc, g1, g2, g3⟩
      · cases hl
  · cases hl

theorem append_ok {ts tx e e' : TypeId} {es by_ : Nat} {z : AV} (hus : P.underlying ts = some (.slice e)) (hux : P.underlying tx = some (.slice e')) (hs : sizeB P e = some es) (hby : bytesB P e = some by_)
    (hz : zeroB P e = some z) (hzl : z.flat.length = es) (hs0 : es ≠ 0) (hr : HR ren ρ B0 h w) {s x : AV} {s' x' : Value} (hsv : VR ren ρ s s') (hxv : VR ren ρ x x') {v : AV} {d : HD} (hf : h.n < (d.on h).n → ρ h.n = none) (hrun : aAppend h es by_ s x = some (v, d)) :
    ∃ v' w' ρ', (Builtin.append_ #[ts, tx] ty #[s', x']).run P w = .ok v' w' ∧ VR ren ρ' v v' ∧ Post ren ρ B0 h w ρ' (d.on h) w' := by
  obtain ⟨i, zv, k1, k2, k3, k4⟩ := zero_cells (ren := ren) (ρ := ρ) hz (by intro e; rw [e] at hzl; simp at hzl; omega)
  have hzs : zv.cells.size = es := by have := k4.1.1; simp at this; omega
  have hbi : i.bytes = by_ := by
    unfold bytesB at hby
    rw [k1] at hby; injection hby
  have hsi : i.size = es := by
    obtain ⟨i', hi', hs'⟩ := sizeB_info hs
    rw [k1] at hi'; injection hi' with hi'; subst hi'; exact hs'
  unfold aAppend at hrun
  split at hrun
  · cases hrun
  · rename_i new hnew
    have fitsb : ∀ {n : Nat}, fits n by_ = true → n * i.bytes ≤ 140737488355328 ∧ n ≤ 140737488355328 := fun {n} hft => by
      unfold fits at hft
      simp only [Bool.and_eq_true] at hft
      rw [hbi]
      exact ⟨Nat.le_of_ble_eq_true hft.1, Nat.le_of_ble_eq_true hft.2⟩
    -- what is appended
    rcases elems_ok hr hxv hnew with ⟨rfl, rfl, rfl⟩ | ⟨idx, offx, n, capx, adx, cx', ns, rfl, rfl, hnc, n1, n2, n3⟩
    · -- nothing
      have hsrc : Src P i.size tx (.slice none 0 0) 0 [] w := Src.ofNil w hux 0
      split at hrun
      · cases hsv
        injection hrun with hrun; injection hrun with h1 h2; subst h1; subst h2
        exact ⟨_, w, ρ, run_append_nothing w ts tx ty e i hus k1 none 0 0 (Nat.le_refl _) _ hsrc, .nils, Post.refl hr⟩
      · rename_i id off len cap es'
        cases hb : Nat.beq es es' with
        | false => simp [hb] at hrun
        | true =>
          simp only [hb, cond_true] at hrun
          injection hrun with hrun; injection hrun with h1 h2; subst h1; subst h2
          cases hsv with
          | slx he hl ho => exact ⟨_, w, ρ, run_append_nothing w ts tx ty e i hus k1 _ _ _ hl _ hsrc, .slx he hl ho, Post.refl hr⟩
          | slo he hl hzz ho => exact ⟨_, w, ρ, run_append_nothing w ts tx ty e i hus k1 _ _ _ hl _ hsrc, .slo he hl hzz ho, Post.refl hr⟩
      · cases hrun
    · have hsrc : Src P i.size tx (.slice (some adx) n cx') n ns w := Src.ofSlice w hux adx n cx' ns (by rw [hsi]; exact n1) n2 (fun u hu => by
        obtain ⟨j, hj⟩ := List.mem_iff_getElem?.1 hu
        have hjl : j < new.length := by have := (List.getElem?_eq_some_iff.1 hj).1; have := n3.1.1; omega
        exact (n3.1.2 j _ u (List.getElem?_eq_getElem hjl) hj).one (n3.2 _ (List.getElem_mem hjl)))
      -- a new row
      have grow : ∀ (h : AH) (hr : HR ren ρ B0 h w) (hf : ρ h.n = none) (base : Option Addr) (sLen sCap : Nat) (old : List AV) (olds : List Value), (Builtin.firstCells i.size sLen (.slice base sLen sCap)).run P w.drew = .ok olds.toArray w.drew → CL ren ρ old olds → olds.length = sLen * es →
          sCap < sLen + n → fits (sLen + n) by_ = true → ∃ v' w' ρ', (Builtin.append_ #[ts, tx] ty #[.slice base sLen sCap, .slice (some adx) n cx']).run P w = .ok v' w' ∧ VR ren ρ' (.sl h.n 0 (sLen + n) none es) v' ∧ Post ren ρ B0 h w ρ' (h.add (.cells true (old ++ new))) w' := by
        intro h hr hf base sLen sCap old olds hold hco hol hlt hft
        obtain ⟨f1, f2⟩ := fitsb hft
        have hrn := run_append_grow_src w ts tx ty e i zv hus k1 k2 base sLen sCap olds hold _ n ns hsrc hlt (by
          have : ((sLen + n : Nat) : Int) ≤ ((140737488355328 : Nat) : Int) := Int.ofNat_le.2 f2
          have : ((140737488355328 : Nat) : Int) = 140737488355328 := rfl
          omega) (growslice_fits hlt f1)
        have hcl : CL ren ρ (old ++ new) (olds ++ ns) := ⟨hco.1.append n3.1, fun x hx => by
          rcases List.mem_append.1 hx with h | h
          · exact hco.2 x h
          · exact n3.2 x h⟩
        have hp1 := Post.drew (B0 := B0) hr
        have hp2 := new_cells (ren := ren) (w := w.drew) (hr.of_heap rfl) hf hcl e (Builtin.zeroCells zv.cells (grownCap w (sLen + n) sCap e - (sLen + n))).toList
        have hge : sLen + n ≤ grownCap w (sLen + n) sCap e := by
          show sLen + n ≤ (sLen + n) + _ % _
          omega
        refine ⟨_, _, ρ.upd h.n ⟨w.heap.size, 0, (olds ++ ns ++ (Builtin.zeroCells zv.cells (grownCap w (sLen + n) sCap e - (sLen + n))).toList).length⟩, hrn, ?_, ?_⟩
        · refine .slo (e := ⟨w.heap.size, 0, (olds ++ ns ++ (Builtin.zeroCells zv.cells (grownCap w (sLen + n) sCap e - (sLen + n))).toList).length⟩) (Rho.upd_same _ _ _) hge ?_ (.inl rfl)
          have hzc : (Builtin.zeroCells zv.cells (grownCap w (sLen + n) sCap e - (sLen + n))).toList.length = (grownCap w (sLen + n) sCap e - (sLen + n)) * es := by
            rw [Array.length_toList, size_zeroCells, hzs]
          simp only [List.length_append, hzc, hol, n1, Nat.zero_add]
          rw [← Nat.add_mul, ← Nat.add_mul]
          apply Nat.le_of_eq
          congr 1
          omega
        · have : (olds ++ ns).toArray ++ Builtin.zeroCells zv.cells (grownCap w (sLen + n) sCap e - (sLen + n)) = (olds ++ ns ++ (Builtin.zeroCells zv.cells (grownCap w (sLen + n) sCap e - (sLen + n))).toList).toArray := by simp
          rw [this]
          exact hp1.trans hp2
      split at hrun
      · -- onto nil
        cases hsv
        simp only at hrun
        split at hrun
        · rename_i n0
          injection hrun with hrun; injection hrun with h1 h2; subst h1; subst h2
          exact ⟨_, w, ρ, run_append_nothing w ts tx ty e i hus k1 none 0 0 (Nat.le_refl _) _ (by
            have : ns = [] := by cases ns with
              | nil => rfl
              | cons _ _ => simp at n1
            subst this; exact hsrc), .nils, Post.refl hr⟩
        · rename_i n0 hn0
          cases hft : fits n by_ with
          | false => simp [hft] at hrun
          | true =>
            simp only [hft, cond_true] at hrun
            injection hrun with hrun; injection hrun with h1 h2; subst h1; subst h2
            have := grow h hr (hf (Nat.lt_succ_self _)) none 0 0 [] [] (run_firstCells_none w.drew i.size 0 0 0) ⟨VRL.nil ρ, by simp⟩ (by simp) (by have : n ≠ 0 := fun e => hn0 e; omega) (by simpa using hft)
            simp only [Nat.zero_add, List.nil_append] at this
            exact this
      · rename_i id off len cap es'
        cases hb : Nat.beq es es' with
        | false => simp [hb] at hrun
        | true =>
          have he := Nat.eq_of_beq_eq_true hb
          subst he
          simp only [hb, cond_true] at hrun
          split at hrun
          · -- nothing
            injection hrun with hrun; injection hrun with h1 h2; subst h1; subst h2
            have : ns = [] := by cases ns with
              | nil => rfl
              | cons _ _ => simp at n1
            subst this
            cases hsv with
            | slx he hl ho => exact ⟨_, w, ρ, run_append_nothing w ts tx ty e i hus k1 _ _ _ hl _ hsrc, .slx he hl ho, Post.refl hr⟩
            | slo he hl hzz ho => exact ⟨_, w, ρ, run_append_nothing w ts tx ty e i hus k1 _ _ _ hl _ hsrc, .slo he hl hzz ho, Post.refl hr⟩
          · rename_i hn0
            have hn0 : n ≠ 0 := fun e => hn0 e
            split at hrun
            · rename_i rw_ vs hg
              cases hsv with
              | slx he hl ho =>
                rename_i c o e0
                simp only at hrun
                cases hroom : Nat.ble (len + n) c with
                | true =>
                  simp only [hroom, cond_true] at hrun
                  have hroom := Nat.le_of_ble_eq_true hroom
                  cases rw_ with
                  | false => simp at hrun
                  | true =>
                    simp only [cond_true] at hrun
                    split at hrun
                    · rename_i vs' hsp
                      injection hrun with hrun; injection hrun with h1 h2; subst h1; subst h2
                      have ho : o = e0.sh + off := by rcases ho with h | h
                                                      · exact h
                                                      · omega
                      subst ho
                      obtain ⟨w1, w2, w3, w4⟩ := write_cells hr hg he n3 hsp
                      refine ⟨_, _, ρ, run_append_room_src w ts tx ty e i hus k1 e0.blk (e0.sh + off) len c _ n ns hsrc hroom (by rw [hsi]; simpa [Nat.add_assoc] using w1) (by rw [hsi]; simpa [Nat.add_assoc] using w2), .slx he hroom (.inl rfl), ?_⟩
                      rw [hsi, show e0.sh + off + len * es = e0.sh + (off + len * es) from by omega]
                      exact w4
                    · cases hrun
                | false =>
                  simp only [hroom, cond_false] at hrun
                  have hroom : c < len + n := by
                    have := Nat.not_le_of_not_ble_eq_true (n := len + n) (m := c) (by simp [hroom]); omega
                  cases hft : fits (len + n) by_ with
                  | false => simp [hft] at hrun
                  | true =>
                    simp only [hft, cond_true] at hrun
                    split at hrun
                    · rename_i old hcut
                      injection hrun with hrun; injection hrun with h1 h2; subst h1; subst h2
                      have hel : elems h es (.sl id off len (some c) es) = some old := by
                        simp only [elems]; rw [Nat.beq_refl, cond_true, hg]; exact hcut
                      rcases elems_ok hr (.slx he hl ho) hel with ⟨h1, _⟩ | ⟨_, _, _, _, _, _, os, q1, q2, q3, q4, q5, q6⟩
                      · cases h1
                      · injection q1 with r1 r2 r3 r4
                        injection q2 with r5 r6 r7
                        subst r3; subst r7
                        injection r5 with r5
                        subst r5
                        exact grow h hr (hf (Nat.lt_succ_self _)) _ len c old os (run_firstCells_some w.drew i.size len _ len c os (by rw [hsi]; exact q4) (by simpa using q5)) q6 q4 hroom hft
                    · cases hrun
              | slo he hl hzz ho =>
                rename_i c o e0
                simp only at hrun
                cases hft : rw_ && fits (len + n) by_ with
                | false => simp [hft] at hrun
                | true =>
                  simp only [hft, cond_true] at hrun
                  simp only [Bool.and_eq_true] at hft
                  obtain ⟨hrw, hft⟩ := hft
                  subst hrw
                  split at hrun
                  · rename_i old hcut
                    injection hrun with hrun; injection hrun with h1 h2; subst h1; subst h2
                    have hel : elems h es (.sl id off len none es) = some old := by
                      simp only [elems]; rw [Nat.beq_refl, cond_true, hg]; exact hcut
                    rcases elems_ok hr (.slo he hl hzz ho) hel with ⟨h1, _⟩ | ⟨_, _, _, _, _, _, os, q1, q2, q3, q4, q5, q6⟩
                    · cases h1
                    · injection q1 with r1 r2 r3 r4
                      injection q2 with r5 r6 r7
                      subst r3; subst r7
                      injection r5 with r5
                      subst r5
                      by_cases hroom : len + n ≤ c
                      · -- in place
                        have ho : o = e0.sh + off := by rcases ho with h | h
                                                        · exact h
                                                        · omega
                        subst ho
                        obtain ⟨e1, he1, c0, el, fz, hh, hz0, hsz, hv, hrw⟩ := hr.obj id _ hg rfl
                        rw [he] at he1; injection he1 with he1; subst he1
                        obtain ⟨hfz, hB⟩ := hrw rfl
                        subst hfz
                        obtain ⟨k5, k6, k7⟩ := cut_spec hcut
                        have hmul : len * es + n * es ≤ c * es := by rw [← Nat.add_mul]; exact Nat.mul_le_mul_right _ hroom
                        obtain ⟨g1, g2, g3, g4, g5⟩ := setCells_other e0.blk ns (e0.sh + off + len * es) w
                        obtain ⟨c1, s1, s2, s3⟩ := setCells_heap e0.blk ns (e0.sh + off + len * es) w c0 el (0, 0) hh (by omega)
                        have hf := hf (Nat.lt_succ_self _)
                        have hle := Rho.le_upd (ρ := ρ) (i := h.n) ⟨e0.blk, e0.sh + off, e0.sz⟩ hf
                        have hnew : new.length = n * es := by have := n3.1.1; omega
                        refine ⟨_, _, ρ.upd h.n ⟨e0.blk, e0.sh + off, e0.sz⟩, run_append_room_src w ts tx ty e i hus k1 e0.blk (e0.sh + off) len c _ n ns hsrc hroom (fun j hj => ?_) (fun j hj => ?_), ?_, ?_⟩
                        · rw [hsi]
                          have : e0.sh + off + len * es + j < c0.size := by omega
                          simp [World.cell?, hh, this]
                        · simp [World.frozen?, hh]
                        · exact .slo (e := ⟨e0.blk, e0.sh + off, e0.sz⟩) (Rho.upd_same _ _ _) hroom hzz (.inl rfl)
                        · rw [hsi]
                          refine Post.kadd hr hf hg rfl he (e0.sh + off) e0.sz g3 g4 g5 g2 g1 ⟨c1, el, (0, 0), s1, by rw [s2]; exact hz0, by simp; omega, fun j x hx => ?_, fun _ => ⟨rfl, hB⟩⟩
                          show ∃ y, c1[e0.sh + off + j]? = some y ∧ _
                          rw [s3]
                          by_cases cj : j < old.length
                          · rw [List.getElem?_append_left cj] at hx
                            rw [if_neg (by omega)]
                            rw [k7 j (by omega)] at hx
                            obtain ⟨y, y1, y2, y3⟩ := hv _ x hx
                            exact ⟨y, by rw [← y1]; congr 1; omega, y2.mono hle, y3⟩
                          · rw [List.getElem?_append_right (by omega)] at hx
                            obtain ⟨y, y1, y2⟩ := n3.1.at hx
                            have hyl : j - old.length < ns.length := (List.getElem?_eq_some_iff.1 y1).1
                            rw [if_pos (by omega)]
                            exact ⟨y, by rw [← y1]; congr 1; omega, y2.mono hle, n3.2 x (List.mem_of_getElem? hx)⟩
                      · -- a new row; the old object is given up first
                        have p1 : Post ren ρ B0 h w ρ (h.put id .dead) w := Post.put hr hg rfl he rfl rfl ⟨rfl, rfl⟩ rfl (fun _ _ => rfl) trivial
                        obtain ⟨v', w', ρ', a1, a2, a3⟩ := grow (h.put id .dead) p1.rel (hf (Nat.lt_succ_self _)) _ len c old os (run_firstCells_some w.drew i.size len _ len c os (by rw [hsi]; exact q4) (by simpa using q5)) q6 q4 (by omega) hft
                        exact ⟨v', w', ρ', a1, a2, p1.trans a3⟩
                  · cases hrun
            · cases hrun
      · cases hrun

end
end Go.AM
end
section
/- Every operation but a call of a function: what the abstract machine computes is what the model computes. No condition but that it was compiled. -/
namespace Go.AM

section
variable {ren : FuncId → Option Nat} {P : Program} {ρ : Rho} {B0 nt : Nat} {h : AH} {w : World} {t : Tmps} {a : Act}
variable {dst : Option Tmp} {ty : TypeId} {pos : String} {after : Array Edge} {guard : Option (Nat × Bool)}

theorem arr2 {α : Type} {x : Array α} {u v : α} (h : x.toList = [u, v]) : x = #[u, v] := by
  obtain ⟨l⟩ := x; simp at h; subst h; rfl
theorem arr1 {α : Type} {x : Array α} {u : α} (h : x.toList = [u]) : x = #[u] := by
  obtain ⟨l⟩ := x; simp at h; subst h; rfl

theorem did_builtin {b : Builtin} {args : Array Operand} {ts : Array TypeId} {s : Sem Value} (hb : ∀ consts, builtin b ts ty consts (args.map a.eval) = (do pure (Next.value (← s)))) {v : AV} {v' : Value} {w' : World} {ρ' : Rho} {h' : AH}
    (hs : s.run P w = .ok v' w') (hv : VR ren ρ' v v') (hp : Post ren ρ B0 h w ρ' h' w') :
    Did ren P ρ B0 h w (execOp a.eval ⟨dst, .call { callee := .builtin b, args := args, argTypes := ts }, ty, pos, after, guard⟩) v h' := by
  obtain ⟨consts, he⟩ := execOp_builtin (a := a) (dst := dst) (ty := ty) (pos := pos) (after := after) (guard := guard) b args ts
  rw [he]
  refine ⟨.value v', v', w', ρ', ?_, .inl rfl, hv, hp⟩
  simp only [Sem.run_bind, Sem.run_pure, Result.andThen_ok, invoke]
  rw [hb consts, Sem.run_bind, hs]
  rfl

theorem ok_builtin (b : Builtin) (args : Array Operand) (ts : Array TypeId) : OpOk ren P ρ B0 nt h w t a ⟨dst, .call { callee := .builtin b, args := args, argTypes := ts }, ty, pos, after, guard⟩ := by
  intro ao v d hc hrun hr ht hf
  cases b <;> simp only [compOp] at hc <;> (try (cases hc; done))
  case append =>
    split at hc
    · rename_i s x tS tX ha hts
      have ha := arr2 ha
      have hts := arr2 hts
      subst ha; subst hts
      split at hc
      · rename_i e e' hu hu'
        obtain ⟨z, hz, hc⟩ := bind_some hc
        obtain ⟨n, hn, hc⟩ := bind_some hc
        cases hb : Nat.beq n ((sizeB P e').getD 0) && Nat.beq z.flat.length n && !Nat.beq n 0 with
        | false => rw [hb] at hc; cases hc
        | true =>
          rw [hb, cond_true] at hc
          simp only [Bool.and_eq_true, Bool.not_eq_true'] at hb
          obtain ⟨by_, hby, hc⟩ := bind_some hc
          obtain ⟨s', hs, hc⟩ := bind_some hc
          obtain ⟨x', hx, hc⟩ := bind_some hc
          injection hc with hc; subst hc
          have hrun : aAppend h n by_ (s'.ev t) (x'.ev t) = some (v, d) := hrun
          obtain ⟨v', w', ρ', g1, g2, g3⟩ := append_ok (ty := ty) hu hu' hn hby hz (Nat.eq_of_beq_eq_true hb.1.2) (fun e => by rw [e] at hb; simp at hb) hr (ht.ev hs) (ht.ev hx) hf hrun
          exact did_builtin (s := Builtin.append_ #[tS, tX] ty #[a.eval s, a.eval x]) (fun _ => by simp [builtin]) g1 g2 g3
      · cases hc
    · cases hc
  case len =>
    split at hc
    · rename_i x tX ha hts
      have ha := arr1 ha
      have hts := arr1 hts
      subst ha; subst hts
      split at hc
      · rename_i e hu
        obtain ⟨x', hx, hc⟩ := bind_some hc
        injection hc with hc; subst hc
        have hx := ht.ev hx
        simp only [aopD, op_len] at hrun
        split at hrun
        · rename_i ex; rw [ex] at hx
          injection hrun with hrun; injection hrun with h1 h2; subst h1; subst h2
          generalize hxx : a.eval x = xx at hx
          cases hx
          exact did_builtin (s := Builtin.len_ #[tX] ty #[a.eval x]) (fun _ => by simp [builtin]) (by rw [hxx]; simp [Builtin.len_, run_underlying hu] <;> rfl) (.i _ _) (Post.refl hr)
        · rename_i id off n cap es ex; rw [ex] at hx
          injection hrun with hrun; injection hrun with h1 h2; subst h1; subst h2
          generalize hxx : a.eval x = xx at hx
          have hv : ∃ ad c, xx = .slice ad n c := by cases hx <;> exact ⟨_, _, rfl⟩
          obtain ⟨ad, c, hv⟩ := hv
          exact did_builtin (s := Builtin.len_ #[tX] ty #[a.eval x]) (v' := .int .i64 n) (fun _ => by simp [builtin]) (by rw [hxx, hv]; simp [Builtin.len_, run_underlying hu] <;> rfl) (.i _ _) (Post.refl hr)
        · cases hrun
      · rename_i hu
        obtain ⟨x', hx, hc⟩ := bind_some hc
        injection hc with hc; subst hc
        have hx := ht.ev hx
        simp only [aopD, op_lens] at hrun
        split at hrun
        · rename_i l ex; rw [ex] at hx
          injection hrun with hrun; injection hrun with h1 h2; subst h1; subst h2
          generalize hxx : a.eval x = xx at hx
          cases hx with
          | str s =>
            have hsl : (s.toList.length : Int) = s.size := by rw [ByteArray.toList_eq]; simp <;> rfl
            exact did_builtin (s := Builtin.len_ #[tX] ty #[a.eval x]) (v' := .int .i64 s.size) (fun _ => by simp [builtin]) (by rw [hxx]; simp [Builtin.len_, run_underlying hu] <;> rfl) (by rw [hsl]; exact .i _ _) (Post.refl hr)
        · cases hrun
      · rename_i kt et hu
        obtain ⟨x', hx, hc⟩ := bind_some hc
        injection hc with hc; subst hc
        have hx := ht.ev hx
        simp only [aopD, op_lenm] at hrun
        split at hrun
        · rename_i ex; rw [ex] at hx
          injection hrun with hrun; injection hrun with h1 h2; subst h1; subst h2
          generalize hxx : a.eval x = xx at hx
          cases hx
          exact did_builtin (s := Builtin.len_ #[tX] ty #[a.eval x]) (fun _ => by simp [builtin]) (by rw [hxx]; simp [Builtin.len_, run_underlying hu] <;> rfl) (.i _ _) (Post.refl hr)
        · rename_i id ex; rw [ex] at hx
          generalize hxx : a.eval x = xx at hx
          cases hx with
          | mp he =>
            split at hrun
            · rename_i es hg
              injection hrun with hrun; injection hrun with h1 h2; subst h1; subst h2
              obtain ⟨en, ck, o1, o2, o3⟩ := map_obj hr hg he
              have hl : (es.length : Int) = en.size := by have := o3.1; simp at this; omega
              exact did_builtin (s := Builtin.len_ #[tX] ty #[a.eval x]) (v' := .int .i64 en.size) (fun _ => by simp [builtin]) (by rw [hxx]; simp [Builtin.len_, run_underlying hu, run_getMap o1] <;> rfl) (by rw [hl]; exact .i _ _) (Post.refl hr)
            · cases hrun
        · cases hrun
      · cases hc
    · cases hc
  case min =>
    obtain ⟨l, hl, hc⟩ := bind_some hc
    injection hc with hc; subst hc
    have hl := ht.evs hl
    simp only [aopD, op_min] at hrun
    split at hrun
    · rename_i u hu
      injection hrun with hrun; injection hrun with h1 h2; subst h1; subst h2
      obtain ⟨x, r, v', g1, g2, g3⟩ := foldInts_ok (P := P) (w := w) (fun x y => bif iLt y x then y else x) Builtin.min2 (fun k x k' y => by
        simp only [Builtin.min2]; rw [iLt_eq]; by_cases c : y < x <;> simp [c]) hl hu
      have g1' : (args.map a.eval).toList = x :: r := by simpa using g1
      exact did_builtin (s := Builtin.min_ ts ty (args.map a.eval)) (fun _ => by simp [builtin]) (by unfold Builtin.min_; rw [g1']; exact g2) g3 (Post.refl hr)
    · cases hrun
  case max =>
    obtain ⟨l, hl, hc⟩ := bind_some hc
    injection hc with hc; subst hc
    have hl := ht.evs hl
    simp only [aopD, op_max] at hrun
    split at hrun
    · rename_i u hu
      injection hrun with hrun; injection hrun with h1 h2; subst h1; subst h2
      obtain ⟨x, r, v', g1, g2, g3⟩ := foldInts_ok (P := P) (w := w) (fun x y => bif iLt x y then y else x) Builtin.max2 (fun k x k' y => by
        simp only [Builtin.max2]; rw [iLt_eq]; by_cases c : x < y <;> simp [c]) hl hu
      have g1' : (args.map a.eval).toList = x :: r := by simpa using g1
      exact did_builtin (s := Builtin.max_ ts ty (args.map a.eval)) (fun _ => by simp [builtin]) (by unfold Builtin.max_; rw [g1']; exact g2) g3 (Post.refl hr)
    · cases hrun

/-- Every operation but a call of a function. -/
theorem op_ok (o : Oper) : OpOk ren P ρ B0 nt h w t a o := by
  obtain ⟨dst, op, ty, pos, after, guard⟩ := o
  cases op with
  | move x => exact ok_move x
  | assign x => exact ok_assign x
  | pick x y z => exact ok_pick x y z
  | alloc e => exact ok_alloc e
  | box e x => exact ok_box e x
  | build T ps => exact ok_build T ps
  | buildSlice T n ps => exact ok_buildSlice T n ps
  | insert T m k v => exact ok_insert T m k v
  | load T x => exact ok_load T x
  | store T x y => exact ok_store T x y
  | nilCheck x => exact ok_nilCheck x
  | binOp op T x y T' => exact ok_binOp op T T' x y
  | unOp op T x => exact ok_unOp op T x
  | convert S D x => exact ok_convert S D x
  | makeFunc fn f c => exact ok_makeFunc fn f c
  | makeMap T r =>
    cases r with
    | none => exact ok_makeMap T
    | some r => intro ao v d hc; simp [compOp] at hc
  | makeSlice T l c => exact ok_makeSlice T l c
  | slice T x lo hi mx => exact ok_slice T x lo hi mx
  | fieldAddr T x f => exact ok_fieldAddr T x f
  | field T x f => exact ok_field T x f
  | indexAddr T x i => exact ok_indexAddr T x i
  | index T x i => exact ok_index T x i
  | lookup T m k ok => exact ok_lookup T m k ok
  | mapUpdate T m k v => exact ok_mapUpdate T m k v
  | extract x i => exact ok_extract x i
  | call c =>
    obtain ⟨callee, args, ts⟩ := c
    cases callee with
    | builtin b => exact ok_builtin b args ts
    | value f =>
      intro ao v d hc hrun
      simp only [compOp] at hc
      obtain ⟨y, hy, hc⟩ := bind_some hc
      obtain ⟨l, hl, hc⟩ := bind_some hc
      injection hc with hc; subst hc
      simp [aopD] at hrun
    | invoke r m => intro ao v d hc; simp [compOp] at hc
  | _ => intro ao v d hc; simp [compOp] at hc

end
end Go.AM
end
section
/- What a run leaves of memory, said of the abstract machine alone. -/
namespace Go.AM

def AH.wf (h : AH) : Prop := ∀ x, h.n ≤ x → h.os.get x = none

/-- What is left of memory. -/
structure Kp (h h' : AH) : Prop where
  n : h.n ≤ h'.n
  hid : h'.hid = h.hid
  wm : h'.wm ≤ h.wm
  keep : ∀ x, x < h.n → x < h'.wm → h'.os.get x = h.os.get x
  unseen : h.wf → ∀ x, x < h.n → h.get x = none → h'.os.get x = h.os.get x
  ro : h.wf → ∀ x o, h'.os.get x = some o → o.live = true → o.wr = false → h.os.get x = some o
  wf : h.wf → h'.wf

theorem AH.get_of {h h' : AH} {x : Nat} (hh : h'.hid = h.hid) (ho : h'.os.get x = h.os.get x) : h'.get x = h.get x := by
  unfold AH.get; rw [hh, ho]

theorem AH.get_none {h : AH} {x : Nat} (hw : h.wf) (hx : h.n ≤ x) : h.get x = none := by
  unfold AH.get; rw [hw x hx]; cases zca h.hid x <;> rfl
theorem AH.get_lt {h : AH} {x : Nat} {o : AO} (hw : h.wf) (hx : h.get x = some o) : x < h.n := by
  by_cases c : x < h.n
  · exact c
  · rw [AH.get_none hw (by omega)] at hx; cases hx

theorem Kp.refl (h : AH) : Kp h h := ⟨Nat.le_refl _, rfl, Nat.le_refl _, fun _ _ _ => rfl, fun _ _ _ _ => rfl, fun _ _ _ h _ _ => h, id⟩

theorem Kp.trans {h h1 h2 : AH} (p : Kp h h1) (q : Kp h1 h2) : Kp h h2 := by
  have hn := p.n
  have hm := q.wm
  refine ⟨Nat.le_trans p.n q.n, q.hid.trans p.hid, Nat.le_trans q.wm p.wm, fun x h1 h2 => ?_, fun hw x h1 h2 => ?_, fun hw x o h1 h2 h3 => p.ro hw x o (q.ro (p.wf hw) x o h1 h2 h3) h2 h3, fun hw => q.wf (p.wf hw)⟩
  · exact (q.keep x (by omega) h2).trans (p.keep x h1 (by omega))
  · have e := p.unseen hw x h1 h2
    exact (q.unseen (p.wf hw) x (by omega) ((AH.get_of p.hid e).trans h2)).trans e

theorem Kp.add (h : AH) {o : AO} (ho : o.wr = true) : Kp h (h.add o) := by
  have g : ∀ x, (h.add o).os.get x = if x = h.n then some o else h.os.get x := fun x => by simp only [AH.add, Tr.get_set]
  refine ⟨by simp [AH.add], rfl, Nat.le_refl _, fun x h1 _ => ?_, fun _ x h1 _ => ?_, fun hw x o' h1 h2 h3 => ?_, fun hw x hx => ?_⟩
  · rw [g, if_neg (by omega)]
  · rw [g, if_neg (by omega)]
  · rw [g] at h1
    split at h1
    · injection h1 with h1; subst h1; rw [ho] at h3; cases h3
    · exact h1
  · have : h.n + 1 ≤ x := hx
    rw [g, if_neg (by omega)]; exact hw x (by omega)

theorem Kp.put (h : AH) {k : Nat} {o o' : AO} (hg : h.get k = some o) (ho : o'.wr = true ∨ o'.live = false) : Kp h (h.put k o') := by
  have g : ∀ x, (h.put k o').os.get x = if x = k then some o' else h.os.get x := fun x => by simp only [AH.put, Tr.get_set]
  have wk : (h.put k o').wm ≤ k := by
    simp only [AH.put]; exact (bmin h.wm k).2
  refine ⟨Nat.le_refl _, rfl, by simp only [AH.put]; exact (bmin h.wm k).1, fun x _ h2 => ?_, fun _ x _ h2 => ?_, fun hw x o'' h1 h2 h3 => ?_, fun hw x hx => ?_⟩
  · rw [g, if_neg (by omega)]
  · rw [g, if_neg (fun e => by rw [e, hg] at h2; cases h2)]
  · rw [g] at h1
    split at h1
    · injection h1 with h1; subst h1
      rcases ho with ho | ho
      · rw [ho] at h3; cases h3
      · rw [ho] at h2; cases h2
    · exact h1
  · have := AH.get_lt hw hg
    have hx : h.n ≤ x := hx
    rw [g, if_neg (by omega)]; exact hw x hx

/-- What an operation may do to memory. -/
def Shape (t : Tmps) (h : AH) (ao : AOp) (d : HD) : Prop :=
  (d = .same) ∨ (∃ o, d = .add o ∧ o.wr = true) ∨ (∃ k o o0, (d = .put k o ∨ d = .kadd k o) ∧ isWrite ao = true ∧ target t ao = [(k, k + 1)] ∧ h.get k = some o0 ∧ o0.wr = true ∧ o.wr = true)

theorem shape {t : Tmps} {h : AH} {ao : AOp} {v : AV} {d : HD} (hr : aopD t h ao = some (v, d)) : Shape t h ao d := by
  cases ao
  case st n a x =>
    simp only [aopD, op_st] at hr
    split at hr
    · rename_i id off ha
      split at hr
      · rename_i vs hg
        cases hb : Nat.beq (x.ev t).flat.length n with
        | false => simp [hb] at hr
        | true =>
          simp only [hb, cond_true] at hr
          split at hr
          · injection hr with hr; injection hr with _ hr; subst hr
            exact .inr (.inr ⟨id, _, _, .inl rfl, rfl, by simp [target, ha], hg, rfl, rfl⟩)
          · cases hr
      · cases hr
    · cases hr
  case mapup kt m k x =>
    simp only [aopD, op_mapup] at hr
    cases hb : keyOk kt (k.ev t) with
    | false => simp [hb] at hr
    | true =>
      simp only [hb, cond_true] at hr
      split at hr
      · rename_i id ha
        split at hr
        · rename_i es hg
          split at hr
          · injection hr with hr; injection hr with _ hr; subst hr
            exact .inr (.inr ⟨id, _, _, .inl rfl, rfl, by simp [target, ha], hg, rfl, rfl⟩)
          · injection hr with hr; injection hr with _ hr; subst hr
            exact .inr (.inr ⟨id, _, _, .inl rfl, rfl, by simp [target, ha], hg, rfl, rfl⟩)
          · cases hr
        · cases hr
      · cases hr
  case app es bytes s x =>
    simp only [aopD, op_app, aAppend] at hr
    split at hr
    · cases hr
    · rename_i new _
      split at hr
      · split at hr
        · split at hr
          · injection hr with hr; injection hr with _ hr; exact .inl hr.symm
          · cases hb : fits _ bytes <;> rw [hb] at hr
            · cases hr
            · injection hr with hr; injection hr with _ hr; exact .inr (.inl ⟨_, hr.symm, rfl⟩)
        · injection hr with hr; injection hr with _ hr; exact .inl hr.symm
      · rename_i id off len cap es' hs
        cases hb : Nat.beq es es' with
        | false => simp [hb] at hr
        | true =>
          simp only [hb, cond_true] at hr
          split at hr
          · split at hr
            · injection hr with hr; injection hr with _ hr; exact .inl hr.symm
            · split at hr
              · rename_i rw vs hg
                split at hr
                · rename_i c
                  cases hb1 : Nat.ble (len + _) c <;> rw [hb1] at hr
                  · simp only [cond_false] at hr
                    cases hb2 : fits (len + _) bytes <;> rw [hb2] at hr
                    · cases hr
                    · simp only [cond_true] at hr
                      split at hr
                      · injection hr with hr; injection hr with _ hr; exact .inr (.inl ⟨_, hr.symm, rfl⟩)
                      · cases hr
                  · simp only [cond_true] at hr
                    cases rw with
                    | false => cases hr
                    | true =>
                      simp only [cond_true] at hr
                      split at hr
                      · injection hr with hr; injection hr with _ hr; subst hr
                        exact .inr (.inr ⟨id, _, _, .inl rfl, rfl, by simp [target, hs], hg, rfl, rfl⟩)
                      · cases hr
                · cases rw with
                  | false => simp at hr
                  | true =>
                    simp only [Bool.true_and] at hr
                    cases hb2 : fits (len + _) bytes <;> rw [hb2] at hr
                    · cases hr
                    · simp only [cond_true] at hr
                      split at hr
                      · injection hr with hr; injection hr with _ hr; subst hr
                        exact .inr (.inr ⟨id, _, _, .inr rfl, rfl, by simp [target, hs], hg, rfl, rfl⟩)
                      · cases hr
              · cases hr
          · injection hr with hr; injection hr with _ hr; exact .inl hr.symm
      · cases hr
  case new => injection hr with hr; injection hr with _ hr; exact .inr (.inl ⟨_, hr.symm, rfl⟩)
  case mkmap => injection hr with hr; injection hr with _ hr; exact .inr (.inl ⟨_, hr.symm, rfl⟩)
  case box n x =>
    simp only [aopD, op_box] at hr
    cases hb : Nat.beq (x.ev t).flat.length n <;> rw [hb] at hr
    · cases hr
    · injection hr with hr; injection hr with _ hr; exact .inr (.inl ⟨_, hr.symm, rfl⟩)
  case bsl es len zero parts =>
    simp only [aopD, op_bsl] at hr
    split at hr
    · injection hr with hr; injection hr with _ hr; exact .inr (.inl ⟨_, hr.symm, rfl⟩)
    · cases hr
  case mks es bytes zero l c =>
    simp only [aopD, op_mks] at hr
    split at hr
    · rename_i ln _ cn _ _
      cases hb : Nat.ble ln cn && Nat.ble (bytes * cn) 140737488355328 && Nat.ble cn 140737488355328 <;> rw [hb] at hr
      · cases hr
      · injection hr with hr; injection hr with _ hr; exact .inr (.inl ⟨_, hr.symm, rfl⟩)
    · cases hr
  case call => cases hr
  all_goals
    left
    simp only [aopD, op_mv, op_pick, op_build, op_ld, op_ldn, op_nilck, op_bin, op_eq, op_un, op_conv, op_mkf, op_slice, op_flda, op_fld, op_idxa, op_idxp, op_idx, op_idxs, op_lookup, op_ext, op_len, op_lens, op_lenm, op_min, op_max, Bool.cond_eq_ite] at hr
    repeat' (first | (cases hr; done) | (injection hr with hr; injection hr with _ hr; exact hr.symm) | split at hr)

theorem aop_kp {t : Tmps} {h h' : AH} {ao : AOp} {v : AV} (hr : aop t h ao = some (v, h')) : Kp h h' := by
  unfold aop at hr
  split at hr
  · rename_i d hd
    injection hr with hr; injection hr with _ h2; subst h2
    rcases shape hd with rfl | ⟨o, rfl, ho⟩ | ⟨k, o, o0, hk, _, _, hg, _, ho⟩
    · exact Kp.refl _
    · exact Kp.add _ ho
    · rcases hk with rfl | rfl
      · exact Kp.put _ hg (.inl ho)
      · exact (Kp.put _ hg (.inr rfl)).trans (Kp.add _ ho)
  · cases hr

/-! Up to whole calls. -/
def KpF (c : CallF) : Prop := ∀ g l h v h', c g l h = some (v, h') → Kp h h'

theorem runOp_kp {c : CallF} (hc : KpF c) {t : Tmps} {h h' : AH} {o : AOp} {v : AV} (hr : runOp c t h o = some (v, h')) : Kp h h' := by
  unfold runOp at hr
  split at hr
  · split at hr
    · exact hc _ _ _ _ _ hr
    · cases hr
  · exact aop_kp hr
theorem runReg_kp {c : CallF} (hc : KpF c) : ∀ {l : List AOper} {t : Tmps} {h : AH} {t' : Tmps} {h' : AH}, runReg c l t h = some (t', h') → Kp h h'
  | [], t, h, t', h', hr => by injection hr with hr; injection hr with _ h2; subst h2; exact Kp.refl _
  | o :: r, t, h, t', h', hr => by
    simp only [runReg] at hr
    cases hw : wantedA t o.guard with
    | false => rw [hw] at hr; exact runReg_kp hc hr
    | true =>
      rw [hw, cond_true] at hr
      split at hr
      · rename_i v h1 ho
        exact (runOp_kp hc ho).trans (runReg_kp hc hr)
      · cases hr

theorem minN_le (a b : Nat) : minN a b ≤ a ∧ minN a b ≤ b := by
  unfold minN
  cases h : Nat.ble a b
  · have : ¬ (a ≤ b) := by intro e; rw [Nat.ble_eq_true_of_le e] at h; cases h
    exact ⟨by simp; omega, Nat.le_refl _⟩
  · exact ⟨Nat.le_refl _, Nat.le_of_ble_eq_true h⟩

theorem hiddenIn_append (a b : List (Nat × Nat)) (x : Nat) : zca (a ++ b) x = (zca a x || zca b x) := by
  induction a with
  | nil => simp [zca]
  | cons y r ih => obtain ⟨p, q⟩ := y; simp [zca, ih, Bool.or_assoc]

/-- The same memory, more of it hidden, the mark set anew. -/
def AH.loose (h : AH) (hid : List (Nat × Nat)) : AH := { h with wm := h.n, hid := hid ++ h.hid }

theorem AH.loose_get {h : AH} {hid : List (Nat × Nat)} {x : Nat} : (h.loose hid).get x = bif zca hid x then none else h.get x := by
  simp only [AH.get, AH.loose, hiddenIn_append]
  cases zca hid x <;> cases zca h.hid x <;> rfl

theorem Kp.of_loose {h h' : AH} {hid : List (Nat × Nat)} (k : Kp (h.loose hid) h') : Kp h { h' with wm := minN h.wm h'.wm, hid := h.hid } := by
  refine ⟨k.n, rfl, (minN_le _ _).1, fun x h1 h2 => k.keep x h1 (Nat.lt_of_lt_of_le h2 (minN_le _ _).2), fun hw x h1 h2 => k.unseen hw x h1 ?_, fun hw x o h1 h2 h3 => k.ro hw x o h1 h2 h3, fun hw => k.wf hw⟩
  rw [AH.loose_get, h2]; cases zca hid x <;> rfl

theorem runLoose_eq {c : CallF} {t : Tmps} {h h' : AH} {hid : List (Nat × Nat)} {o : AOp} {v : AV} (hr : runLoose c t h hid o = some (v, h')) :
    ∃ h1, runOp c t (h.loose (bif isNew o then [(0, h.n)] else hid)) o = some (v, h1) ∧ (isWrite o = true ∨ h.n ≤ h1.wm) ∧ h' = { h1 with wm := minN h.wm h1.wm, hid := h.hid } := by
  unfold runLoose at hr
  split at hr
  · cases hr
  · rename_i v1 h1 ho
    cases hb : isWrite o || Nat.ble h.n h1.wm with
    | false => rw [hb] at hr; cases hr
    | true =>
      rw [hb] at hr; injection hr with hr; injection hr with h3 h2; subst h3
      refine ⟨h1, ho, ?_, h2.symm⟩
      rcases Bool.or_eq_true .. |>.mp hb with e | e
      · exact .inl e
      · exact .inr (Nat.le_of_ble_eq_true e)

theorem runLoose_kp {c : CallF} (hc : KpF c) {t : Tmps} {h h' : AH} {hid : List (Nat × Nat)} {o : AOp} {v : AV} (hr : runLoose c t h hid o = some (v, h')) : Kp h h' := by
  obtain ⟨h1, ho, _, rfl⟩ := runLoose_eq hr
  exact (runOp_kp hc ho).of_loose
theorem runDreg_kp {c : CallF} (hc : KpF c) : ∀ {l : List (Nat × AOper × Nat × Bool)} {made : List (Nat × List (Nat × Nat))} {t : Tmps} {h : AH} {t' : Tmps} {h' : AH}, runDreg c l made t h = some (t', h') → Kp h h'
  | [], made, t, h, t', h', hr => by injection hr with hr; injection hr with _ h2; subst h2; exact Kp.refl _
  | (i, o, pre, bar) :: r, made, t, h, t', h', hr => by
    simp only [runDreg] at hr
    cases hw : wantedA t o.guard with
    | false => rw [hw] at hr; exact runDreg_kp hc hr
    | true =>
      rw [hw, cond_true] at hr
      cases hb : bar || isPure o.op with
      | true =>
        rw [hb, cond_true] at hr
        split at hr
        · rename_i v h1 ho
          exact (runOp_kp hc ho).trans (runDreg_kp hc hr)
        · cases hr
      | false =>
        rw [hb, cond_false] at hr
        split at hr
        · rename_i v h1 ho
          exact (runLoose_kp hc ho).trans (runDreg_kp hc hr)
        · cases hr
def KpC (c : CodeF) : Prop := ∀ x t h e t' h', c x t h = some (e, t', h') → Kp h h'
theorem stepC_kp {c : CallF} (hc : KpF c) {ih : CodeF} (hi : KpC ih) : KpC (stepC c ih) := by
  intro x
  induction x with
  | skip => intro t h e t' h' hr; injection hr with hr; injection hr with _ h2; injection h2 with _ h3; subst h3; exact Kp.refl _
  | exit id => intro t h e t' h' hr; injection hr with hr; injection hr with _ h2; injection h2 with _ h3; subst h3; exact Kp.refl _
  | ret => intro t h e t' h' hr; injection hr with hr; injection hr with _ h2; injection h2 with _ h3; subst h3; exact Kp.refl _
  | reg ops =>
    intro t h e t' h' hr
    simp only [stepC] at hr
    split at hr
    · rename_i t1 h1 ho; injection hr with hr; injection hr with _ h2; injection h2 with _ h3; subst h3; exact runReg_kp hc ho
    · cases hr
  | dreg ops =>
    intro t h e t' h' hr
    simp only [stepC] at hr
    split at hr
    · rename_i t1 h1 ho; injection hr with hr; injection hr with _ h2; injection h2 with _ h3; subst h3; exact runDreg_kp hc ho
    · cases hr
  | seq a b iha ihb =>
    intro t h e t' h' hr
    simp only [stepC] at hr
    split at hr
    · rename_i t1 h1 ho; exact (iha _ _ _ _ _ ho).trans (ihb _ _ _ _ _ hr)
    · exact iha _ _ _ _ _ hr
  | cond x a b iha ihb =>
    intro t h e t' h' hr
    simp only [stepC] at hr
    split at hr
    · exact iha _ _ _ _ _ hr
    · exact ihb _ _ _ _ _ hr
    · cases hr
  | block id b ih =>
    intro t h e t' h' hr
    simp only [stepC] at hr
    split at hr
    · rename_i j t1 h1 ho; injection hr with hr; injection hr with _ h2; injection h2 with _ h3; subst h3; exact ih _ _ _ _ _ ho
    · exact ih _ _ _ _ _ hr
  | loop b ih =>
    intro t h e t' h' hr
    simp only [stepC] at hr
    split at hr
    · rename_i t1 h1 ho; exact (ih _ _ _ _ _ ho).trans (hi _ _ _ _ _ _ hr)
    · exact ih _ _ _ _ _ hr
theorem enter_kp {d : CodeF} (hd : KpC d) {f : AFunc} {l : List AV} {h h' : AH} {v : AV} (hr : enter d f l h = some (v, h')) : Kp h h' := by
  unfold enter at hr
  cases hb : Nat.beq l.length f.nargs with
  | false => rw [hb] at hr; cases hr
  | true =>
    rw [hb, cond_true] at hr
    have fin : ∀ {t : Tmps} {h1 : AH}, finish f t h1 = some (v, h') → h' = h1 := fun {t h1} hf => by
      unfold finish at hf
      split at hf <;> (try (injection hf with hf; injection hf with _ h2; exact h2.symm)) <;> cases hf
    split at hr
    · rename_i t1 h1 ho; rw [fin hr]; exact hd _ _ _ _ _ _ ho
    · rename_i t1 h1 ho; rw [fin hr]; exact hd _ _ _ _ _ _ ho
    · cases hr
end Go.AM
end
section
/- Regions whose order is that of the text. No condition but that they were compiled. -/
namespace Go.AM

/-! Slots. -/
theorem N8.get_set {α : Type} (t : N8 α) (d e : D) (x : α) : (t.set d x).get e = if d = e then x else t.get e := by
  cases t; cases d <;> cases e <;> rfl
theorem tget_tset (t : Tmps) (s r : Sl) (v : AV) : tget (tset t s v) r = if s = r then v else tget t r := by
  obtain ⟨a, b, c⟩ := s
  obtain ⟨a', b', c'⟩ := r
  simp only [tget, tset, N8.get_set]
  by_cases h1 : a = a'
  · subst h1
    by_cases h2 : b = b'
    · subst h2
      by_cases h3 : c = c'
      · subst h3; simp [N8.get_set]
      · simp [h3, N8.get_set]
    · simp [h2, N8.get_set]
  · simp [h1]
theorem dg_inj : ∀ {n m : Nat}, n < 8 → m < 8 → dg n = dg m → n = m := by
  intro n m hn hm h
  have key : ∀ n : Fin 8, ∀ m : Fin 8, dg n.val = dg m.val → n.val = m.val := by decide
  exact key ⟨n, hn⟩ ⟨m, hm⟩ h
theorem toSl_inj {n m : Nat} (hn : n < 512) (hm : m < 512) (h : toSl n = toSl m) : n = m := by
  simp only [toSl, Sl.s.injEq] at h
  obtain ⟨h1, h2, h3⟩ := h
  have h1 := dg_inj (by omega) (by omega) h1
  have h2 := dg_inj (by omega) (by omega) h2
  have h3 := dg_inj (by omega) (by omega) h3
  omega

section
variable {ren : FuncId → Option Nat} {P : Program}

theorem TR.mono {ρ ρ' : Rho} {nt : Nat} {t : Tmps} {a : Act} (h : TR ren ρ nt t a) (hle : ρ.le ρ') : TR ren ρ' nt t a := ⟨h.sz, fun n hn => (h.val n hn).mono hle⟩

theorem TR.put {ρ : Rho} {nt : Nat} {t : Tmps} {a : Act} (h : TR ren ρ nt t a) {dst : Option Nat} (hd : ∀ d : Nat, dst = some d → d < nt) (hnt : nt ≤ 512) {v : AV} {v' : Value} (hv : VR ren ρ v v') :
    TR ren ρ nt (putD t (dst.map toSl) v) (a.put dst v') := by
  cases dst with
  | none => exact h
  | some d =>
    have hdn := hd d rfl
    have hsz := h.sz
    refine ⟨by simp [Act.put]; exact h.sz, fun n hn => ?_⟩
    simp only [Option.map_some, putD, tget_tset, Act.put]
    by_cases c : d = n
    · subst c
      rw [if_pos rfl]
      have : (a.tmps.setIfInBounds d v').getD d undef = v' := by simp [show d < a.tmps.size by omega]
      rw [this]; exact hv
    · rw [if_neg (fun e => c (toSl_inj (by omega) hn e))]
      have : (a.tmps.setIfInBounds d v').getD n undef = a.tmps.getD n undef := by simp [Array.getElem?_setIfInBounds_ne c]
      rw [this]; exact h.val n hn

theorem put_defers (a : Act) (dst : Option Tmp) (v : Value) : (a.put dst v).defers = a.defers := by cases dst <;> rfl

theorem wanted_ok {ρ : Rho} {nt : Nat} {t : Tmps} {a : Act} (h : TR ren ρ nt t a) {ops : Array Oper} {o : Oper} {g : Option (Sl × Bool)} (hg : guardB ops o = some g) : Region.wanted o (yielded ops a.tmps) = wantedA t g := by
  unfold guardB at hg
  unfold Region.wanted
  split at hg
  · rename_i hn; injection hg with hg; subst hg; rw [hn]; rfl
  · rename_i j wn hn
    rw [hn]
    split at hg
    · rename_i d hd
      cases hb : Nat.blt d 512 with
      | false => simp [hb] at hg
      | true =>
        simp only [hb, cond_true] at hg
        injection hg with hg; subst hg
        have hd5 : (d : Nat) < 512 := by simpa [Nat.blt_eq] using hb
        have hv := h.val d hd5
        simp only [wantedA, yielded, hd, Option.bind_some]
        rw [Array.getD_eq_getD_getElem?] at hv
        cases hx : a.tmps[d]? with
        | none =>
          rw [hx, Option.getD_none] at hv
          have hv : VR ren ρ (tget t (toSl d)) (.tuple #[]) := hv
          generalize tget t (toSl d) = z at hv
          cases hv; cases wn <;> rfl
        | some y =>
          rw [hx, Option.getD_some] at hv
          generalize tget t (toSl d) = z at hv
          cases hv <;> (try (cases wn <;> rfl))
    · cases hg

/-! Calls. -/

/-- A call is sound: what the abstract machine says of it holds of the model, in whatever memory. -/
def CallOk (ren : FuncId → Option Nat) (P : Program) (c : CallF) : Prop :=
  ∀ g l h v h', c g l h = some (v, h') → h.wf → ∀ f, ren f = some g → (∃ fn, P.funcs[f]? = some fn ∧ (fn.name == "runtime.NumGoroutine") = false ∧ fn.body.isNone = false) ∧
    ∀ (ρ : Rho) (B0 : Nat) (w : World) (cl : Array Value), HR ren ρ B0 h w → VRL ren ρ l cl.toList → (∀ i, h.n ≤ i → i < h'.n → ρ i = none) →
      Calls P f cl w (fun e w' => ∃ v' ρ', e = .returned v' ∧ VR ren ρ' v v' ∧ Post ren ρ B0 h w ρ' h' w')

theorem HD.new_n (h : AH) (d : HD) : (d.on h).n = h.n ∨ h.n < (d.on h).n := by
  cases d <;> simp [HD.on, AH.add, AH.put]

theorem bif_some {α : Type} {b : Bool} {x : Option α} {y : α} (h : (bif b then x else none) = some y) : x = some y := by cases b <;> simp_all
theorem bif_none {α : Type} {b : Bool} {x : Option α} {y : α} (h : (bif b then none else x) = some y) : x = some y := by cases b <;> simp_all

/-- What becomes a call. -/
theorem compOp_call {dst : Option Tmp} {op : Op} {ty : TypeId} {pos : String} {after : Array Edge} {guard : Option (Nat × Bool)} {f : AX} {args : List AX} (h : compOp P ren ⟨dst, op, ty, pos, after, guard⟩ = some (.call f args)) :
    ∃ f0 qej ts, op = .call { callee := .value f0, args := qej, argTypes := ts } ∧ cx ren f0 = some f ∧ cxs ren qej.toList = some args := by
  cases op
  case call c =>
    obtain ⟨callee, as, ts⟩ := c
    cases callee with
    | value f0 =>
      obtain ⟨y, hy, h⟩ := bind_some h
      obtain ⟨l, hl, h⟩ := bind_some h
      injection h with h; injection h with h1 h2; subst h1; subst h2
      exact ⟨f0, as, ts, rfl, hy, hl⟩
    | invoke r m => simp [compOp] at h
    | builtin b =>
      cases b <;> simp only [compOp] at h <;> (repeat' (first | (cases h; done) | (obtain ⟨_, _, h⟩ := bind_some h) | (have h := bif_some h) | (have h := bif_none h) | split at h))
  all_goals
    simp only [compOp] at h
    repeat' (first | (cases h; done) | (obtain ⟨_, _, h⟩ := bind_some h) | (have h := bif_some h) | (have h := bif_none h) | split at h)
    all_goals (rename_i heq _ _ _ _ _ _; cases heq)

/-- One operation, a call or not. -/
theorem opwp_ok {c : CallF} (hc : CallOk ren P c) {ρ : Rho} {B0 nt : Nat} {h h' : AH} {w : World} {t : Tmps} {a : Act} {o : Oper} {ao : AOp} {v : AV} (hcomp : compOp P ren o = some ao) (hrun : runOp c t h ao = some (v, h')) (hwf : h.wf)
    (hr : HR ren ρ B0 h w) (ht : TR ren ρ nt t a) (hf : ∀ i, h.n ≤ i → i < h'.n → ρ i = none) {next : Act → World → Prop} {Q : Exit → Act → World → Prop}
    (K : ∀ v' w' ρ', VR ren ρ' v v' → Post ren ρ B0 h w ρ' h' w' → next (a.put o.dst v') w') : o.wp P a w next Q := by
  have plain : ∀ d, aopD t h ao = some (v, d) → h' = d.on h → o.wp P a w next Q := fun d hd he => by
    obtain ⟨nx, v', w', ρ', g1, g2, g3, g4⟩ := op_ok o ao v d hcomp hd hr ht (fun hlt => hf h.n (Nat.le_refl _) (by rw [he]; exact hlt))
    unfold Oper.wp
    rw [g1]
    rcases g2 with rfl | ⟨rfl, rfl⟩
    · exact K v' w' ρ' g3 (he ▸ g4)
    · exact K _ w' ρ' g3 (he ▸ g4)
  unfold runOp at hrun
  split at hrun
  · rename_i f args
    split at hrun
    · rename_i g caps hfv
      obtain ⟨dst, op, ty, pos, after, guard⟩ := o
      have hop := compOp_call hcomp
      obtain ⟨f0, qej, ts, rfl, hf0, ha0⟩ := hop
      have hfv' := ht.ev hf0
      rw [hfv] at hfv'
      generalize hx : a.eval f0 = fx at hfv'
      cases hfv' with
      | fn hfr hcl hcs =>
        rename_i fid ca
        have hargs := ht.evs ha0
        obtain ⟨⟨fn, p1, p2, p3⟩, hcalls⟩ := hc g _ h v h' hrun hwf fid hfr
        have p2' : fn.name ≠ "runtime.NumGoroutine" := by simpa using p2
        have p3' : fn.body ≠ none := by intro e; rw [e] at p3; cases p3
        have hexec : (execOp a.eval ⟨dst, .call { callee := .value f0, args := qej, argTypes := ts }, ty, pos, after, guard⟩).run P w = .ok (.enter fid (qej.map a.eval ++ ca)) w := by
          simp [execOp, resolve, Deferred.ofValue, hx, invoke, callFunc, p1, p2', p3']
        unfold Oper.wp
        rw [hexec]
        have hvrl : VRL ren ρ (evs t args ++ caps) (qej.map a.eval ++ ca).toList := by
          simp only [Array.toList_append, Array.toList_map]
          exact hargs.append ⟨by simpa using hcl, fun j x y hx hy => hcs j x y hx (by simpa using hy)⟩
        refine (hcalls ρ B0 w _ hr hvrl hf).mono fun e w' he => ?_
        obtain ⟨v', ρ', rfl, g1, g2⟩ := he
        exact K v' w' ρ' g1 g2
    · cases hrun
  · unfold aop at hrun
    split at hrun
    · rename_i d hd
      injection hrun with hrun; injection hrun with h1 h2
      subst h1
      exact plain _ hd h2.symm
    · cases hrun

theorem Post.fresh {ρ ρ1 : Rho} {B0 : Nat} {h h1 : AH} {w w1 : World} (p : Post ren ρ B0 h w ρ1 h1 w1) {m : Nat} (hf : ∀ i, h.n ≤ i → i < m → ρ i = none) : ∀ i, h1.n ≤ i → i < m → ρ1 i = none := fun i h1' h2 => by
  by_cases c : ρ1 i = ρ i
  · rw [c]; exact hf i (Nat.le_trans p.n h1') h2
  · have := (p.dom i c).2; omega

theorem compOper_inv {ops : Array Oper} {o : Oper} {x : AOper} (h : compOper P ren ops o = some x) : compOp P ren o = some x.op ∧ guardB ops o = some x.guard ∧ x.dst = o.dst.map toSl := by
  obtain ⟨y, hy, h⟩ := bind_some h
  obtain ⟨g, hg, h⟩ := bind_some h
  injection h with h; subst h
  exact ⟨hy, hg, rfl⟩

theorem runReg_ok {c : CallF} (hc : CallOk ren P c) (hk : KpF c) {nt : Nat} (hnt : nt ≤ 512) {ops : Array Oper} (hd : ∀ (i : Nat) (o : Oper) (d : Nat), ops[i]? = some o → o.dst = some d → d < nt) {Q : Exit → Act → World → Prop} {B0 : Nat} {t' : Tmps} {h' : AH} {D : List Deferred} :
    ∀ (s : List Oper) (k : Nat) (l : List AOper) (t : Tmps) (h : AH) (ρ : Rho) (a : Act) (w : World), (∀ j, s[j]? = ops[k + j]?) → compOpers P ren ops s = some l → runReg c l t h = some (t', h') → h.wf →
      HR ren ρ B0 h w → TR ren ρ nt t a → (∀ i, h.n ≤ i → i < h'.n → ρ i = none) → a.defers = D →
      (∀ ρ' a' w', TR ren ρ' nt t' a' → Post ren ρ B0 h w ρ' h' w' → a'.defers = D → Q .normal a' w') → wpOps P ops Q (List.range' k s.length) a w := by
  intro s
  induction s with
  | nil =>
    intro k l t h ρ a w hs hcomp hrun hwf hr ht hf hD K
    injection hcomp with hcomp; subst hcomp
    injection hrun with hrun; injection hrun with h1 h2; subst h1; subst h2
    exact K ρ a w ht (Post.refl hr) hD
  | cons o s ih =>
    intro k l t h ρ a w hs hcomp hrun hwf hr ht hf hD K
    obtain ⟨x, hx, hcomp⟩ := bind_some hcomp
    obtain ⟨r, hrr, hcomp⟩ := bind_some hcomp
    injection hcomp with hcomp; subst hcomp
    obtain ⟨c1, c2, c3⟩ := compOper_inv hx
    have hok : ops[k]? = some o := by have := hs 0; simpa using this.symm
    have hs' : ∀ j, s[j]? = ops[k + 1 + j]? := fun j => by have := hs (j + 1); rw [List.getElem?_cons_succ] at this; rw [this]; congr 1; omega
    have hdo : ∀ d : Nat, o.dst = some d → d < nt := fun d hdd => hd k o d hok hdd
    simp only [List.length_cons, List.range'_succ, wpOps, hok]
    simp only [runReg] at hrun
    have hw := wanted_ok ht c2
    cases hwa : wantedA t x.guard with
    | false =>
      rw [hwa] at hrun hw
      simp only [hw]
      have ht' := ht.put hdo hnt (v := und) (v' := undef) (VR.tup rfl (by intro j x y hx; simp at hx))
      rw [← c3] at ht'
      exact ih (k + 1) r _ h ρ _ w hs' hrr hrun hwf hr ht' hf ((put_defers _ _ _).trans hD) K
    | true =>
      rw [hwa] at hrun hw
      simp only [hw, if_true]
      rw [cond_true] at hrun
      split at hrun
      · rename_i v h1 ho
        have k1 := (runReg_kp hk hrun).n
        refine .inl (opwp_ok hc c1 ho hwf hr ht (fun i e1 e2 => hf i e1 (by omega)) fun v' w' ρ' g1 g2 => ?_)
        have ht' := (ht.mono g2.le).put hdo hnt g1
        rw [← c3] at ht'
        refine ih (k + 1) r _ h1 ρ' _ w' hs' hrr hrun ((runOp_kp hk ho).wf hwf) g2.rel ht' (g2.fresh hf) ((put_defers _ _ _).trans hD) fun ρ2 a2 w2 e1 e2 e3 => K ρ2 a2 w2 e1 (g2.trans e2) e3
      · cases hrun

end
end Go.AM
end
section
/- Regions whose order is open: what a run in the one order says, taken apart. -/
namespace Go.AM

/-! What an operation looks at. -/
theorem AX.ev_congr {t t' : Tmps} {x : AX} (h : ∀ s ∈ x.looks, tget t s = tget t' s) : x.ev t = x.ev t' := by
  cases x with
  | t n => exact h n (by simp [AX.looks])
  | c v => rfl
theorem evs_congr {t t' : Tmps} : ∀ {l : List AX}, (∀ s ∈ looksL l, tget t s = tget t' s) → evs t l = evs t' l
  | [], _ => rfl
  | x :: r, h => by
    simp only [evs]
    rw [AX.ev_congr (fun s hs => h s (by simp [looksL, hs])), evs_congr (fun s hs => h s (by simp [looksL, hs]))]
theorem fillA_congr {t t' : Tmps} : ∀ {l : List (Nat × Nat × AX)} {z : List AV}, (∀ s ∈ looksP l, tget t s = tget t' s) → fillA z t l = fillA z t' l
  | [], _, _ => rfl
  | (a, b, x) :: r, z, h => by
    simp only [fillA]
    rw [AX.ev_congr (t := t) (t' := t') (x := x) (fun s hs => h s (by simp [looksP, hs]))]
    have := fun z => fillA_congr (l := r) (z := z) (t := t) (t' := t') (fun s hs => h s (by simp [looksP, hs]))
    simp only [this]
theorem evO_congr {t t' : Tmps} {x : Option AX} (h : ∀ s ∈ looksO x, tget t s = tget t' s) : x.map (·.ev t) = x.map (·.ev t') := by
  cases x with
  | none => rfl
  | some x => exact congrArg some (AX.ev_congr h)

theorem runOp_congr {c : CallF} {t t' : Tmps} {h : AH} {o : AOp} (hl : ∀ s ∈ o.looks, tget t s = tget t' s) : runOp c t h o = runOp c t' h o := by
  cases o
  case call f l =>
    simp only [runOp]
    rw [AX.ev_congr (t := t) (t' := t') (x := f) (fun s hs => hl s (by simp [AOp.looks, hs])), evs_congr (t := t) (t' := t') (l := l) (fun s hs => hl s (by simp [AOp.looks, hs]))]
  case build z l =>
    simp only [runOp, aop, aopD, op_build]; rw [fillA_congr hl]
  case bsl e n z l =>
    simp only [runOp, aop, aopD, op_bsl]; rw [fillA_congr hl]
  case mkf f l =>
    simp only [runOp, aop, aopD, op_mkf]; rw [evs_congr hl]
  case min l =>
    simp only [runOp, aop, aopD, op_min]; rw [evs_congr hl]
  case max l =>
    simp only [runOp, aop, aopD, op_max]; rw [evs_congr hl]
  case slice e x lo hi mx =>
    simp only [runOp, aop, aopD, op_slice]
    rw [AX.ev_congr (t := t) (t' := t') (x := x) (fun s hs => hl s (by simp [AOp.looks, hs])), evO_congr (t := t) (t' := t') (x := lo) (fun s hs => hl s (by simp [AOp.looks, hs])), evO_congr (t := t) (t' := t') (x := hi) (fun s hs => hl s (by simp [AOp.looks, hs])), evO_congr (t := t) (t' := t') (x := mx) (fun s hs => hl s (by simp [AOp.looks, hs]))]
  case new => rfl
  case mkmap => rfl
  case pick c a b =>
    simp only [runOp, aop, aopD, op_pick]
    rw [AX.ev_congr (t := t) (t' := t') (x := c) (fun s hs => hl s (by simp [AOp.looks, hs])), AX.ev_congr (t := t) (t' := t') (x := a) (fun s hs => hl s (by simp [AOp.looks, hs])), AX.ev_congr (t := t) (t' := t') (x := b) (fun s hs => hl s (by simp [AOp.looks, hs]))]
  case mapup e m k v =>
    simp only [runOp, aop, aopD, op_mapup]
    rw [AX.ev_congr (t := t) (t' := t') (x := m) (fun s hs => hl s (by simp [AOp.looks, hs])), AX.ev_congr (t := t) (t' := t') (x := k) (fun s hs => hl s (by simp [AOp.looks, hs])), AX.ev_congr (t := t) (t' := t') (x := v) (fun s hs => hl s (by simp [AOp.looks, hs]))]
  all_goals
    simp only [runOp, aop, aopD, op_mv, op_box, op_ld, op_ldn, op_st, op_nilck, op_bin, op_eq, op_un, op_conv, op_mks, op_flda, op_fld, op_idxa, op_idxp, op_idx, op_idxs, op_lookup, op_ext, op_app, op_len, op_lens, op_lenm]
    first
      | (rename_i a b; rw [AX.ev_congr (t := t) (t' := t') (x := a) (fun s hs => hl s (by simp [AOp.looks, hs])), AX.ev_congr (t := t) (t' := t') (x := b) (fun s hs => hl s (by simp [AOp.looks, hs]))])
      | (rename_i a; rw [AX.ev_congr (t := t) (t' := t') (x := a) (fun s hs => hl s (by simp [AOp.looks, hs]))])
      | (rename_i a _; rw [AX.ev_congr (t := t) (t' := t') (x := a) (fun s hs => hl s (by simp [AOp.looks, hs]))])

theorem target_congr {t t' : Tmps} {n : Nat} {o : AOp} (hl : ∀ s ∈ o.looks, tget t s = tget t' s) : targetC t n o = targetC t' n o := by
  unfold targetC
  congr 1
  cases o <;> try rfl
  all_goals
    simp only [target]
    first
      | (rename_i a b; rw [AX.ev_congr (t := t) (t' := t') (x := a) (fun s hs => hl s (by simp [AOp.looks, hs]))])
      | (rename_i a b c; rw [AX.ev_congr (t := t) (t' := t') (x := a) (fun s hs => hl s (by simp [AOp.looks, hs]))])

theorem pure_aopD {t : Tmps} {h h2 : AH} {o : AOp} (hp : isPure o = true) : aopD t h2 o = aopD t h o := by
  cases o <;> first | (cases hp; done) | rfl

/-- What leaves memory alone does not look at it. -/
theorem pure_run {c : CallF} {t : Tmps} {h h1 : AH} {o : AOp} {v : AV} (hp : isPure o = true) (hr : runOp c t h o = some (v, h1)) : h1 = h ∧ ∀ h2, runOp c t h2 o = some (v, h2) := by
  cases o
  case call f l => cases hp
  all_goals first
    | (cases hp; done)
    | (simp only [runOp, aop] at hr ⊢
       split at hr
       · rename_i v1 d hd
         injection hr with hr; injection hr with e1 e2; subst e1
         rcases shape hd with rfl | ⟨o, rfl, ho⟩ | ⟨k, o, o0, hk, hw, _⟩
         · refine ⟨e2.symm, fun h2 => ?_⟩
           rw [pure_aopD (h := h) rfl, hd]; rfl
         · exfalso
           simp only [aopD, op_mv, op_pick, op_build, op_nilck, op_bin, op_eq, op_un, op_conv, op_mkf, op_slice, op_flda, op_fld, op_idxa, op_idxp, op_idx, op_idxs, op_ext, op_len, op_lens, op_min, op_max, Bool.cond_eq_ite] at hd
           repeat' (first | (cases hd; done) | (injection hd with hd; injection hd with _ hd; cases hd; done) | split at hd)
         · cases hw
       · cases hr)

/-- What makes an object and looks at none. -/
theorem new_wr {o : AOp} (h : isNew o = true) : isWrite o = false ∧ isPure o = false := by cases o <;> first | (cases h; done) | exact ⟨rfl, rfl⟩
theorem pure_wr {o : AOp} (h : isPure o = true) : isWrite o = false := by cases o <;> first | (cases h; done) | rfl

/-! Lists of things done, some of them left out. -/
def fld {R α : Type} (u : R → Option α) (S : R → Bool) : List R → α → α
  | [], c => c
  | r :: rs, c => fld u S rs (bif S r then (u r).getD c else c)

section
variable {R α : Type} {u : R → Option α}
theorem fld_append {S : R → Bool} : ∀ (l m : List R) (c : α), fld u S (l ++ m) c = fld u S m (fld u S l c)
  | [], _, _ => rfl
  | _ :: l, m, _ => fld_append l m _
theorem fld_congr {S S' : R → Bool} : ∀ (l : List R) (c : α), (∀ r ∈ l, S r ≠ S' r → u r = none) → fld u S l c = fld u S' l c
  | [], _, _ => rfl
  | r :: l, c, h => by
    simp only [fld]
    have e : (bif S r then (u r).getD c else c) = (bif S' r then (u r).getD c else c) := by
      by_cases hs : S r = S' r
      · rw [hs]
      · rw [h r (by simp) hs]; cases S r <;> cases S' r <;> rfl
    rw [e]; exact fld_congr l _ (fun r hr => h r (by simp [hr]))
theorem fld_none {S : R → Bool} : ∀ (l : List R) (c : α), (∀ r ∈ l, S r = true → u r = none) → fld u S l c = c
  | [], _, _ => rfl
  | r :: l, c, h => by
    simp only [fld]
    have e : (bif S r then (u r).getD c else c) = c := by
      cases hs : S r with
      | false => rfl
      | true => rw [h r (by simp) hs]; rfl
    rw [e]; exact fld_none l _ (fun r hr => h r (by simp [hr]))
end

/-- A heap of such a content. -/
def mkTr (C : Nat → Option AO) : Nat → Tr AO
  | 0 => .nil
  | n + 1 => match C n with
    | some o => (mkTr C n).set n o
    | none => mkTr C n
theorem mkTr_get (C : Nat → Option AO) (x : Nat) : ∀ n, (mkTr C n).get x = if x < n then C x else none
  | 0 => by simp [mkTr]; rfl
  | n + 1 => by
    simp only [mkTr]
    split
    · rename_i o ho
      rw [Tr.get_set, mkTr_get C x n]
      by_cases c : x = n
      · subst c; simp [ho]
      · by_cases d : x < n
        · simp [c, d, show x < n + 1 by omega]
        · simp [c, d, show ¬ x < n + 1 by omega]
    · rename_i ho
      rw [mkTr_get C x n]
      by_cases c : x = n
      · subst c; simp [ho]
      · by_cases d : x < n
        · simp [d, show x < n + 1 by omega]
        · simp [d, show ¬ x < n + 1 by omega]
end Go.AM
end

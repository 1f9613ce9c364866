/- The abstract machine of this work: values, heap, code; a condition ('xcode') that a run of abstract code meets a post. No Go program in sight. -/
import Derived.Calls
namespace Go.Ag
open Go

/-- Who may append to a list in place. -/
inductive Tok where
  | nil | full | tail (id : Nat) | none
  deriving Repr, DecidableEq, Inhabited

inductive AFn where
  | func (g : Nat) | yield (l : Nat)
  deriving Repr, DecidableEq, Inhabited

/-- Abstract values: lists by content. -/
inductive AVal where
  | undef
  | bool (b : Bool)
  | int (k : IntKind) (n : Int)
  | str (s : List UInt8)
  | ptr (id off : Nat)
  | nilptr
  | lptr (cs : List AVal)
  | lst (xs : List AVal) (tk : Tok)
  | arr (id ver off len : Nat)
  | map (id : Nat)
  | nilmap
  | fn (f : AFn) (first captured : List AVal)
  | nilfn
  | iface (t : Nat) (v : AVal)
  | niliface
  | agg (cs : List AVal)
  | tup (vs : List AVal)
  | dptr (xs : List AVal) (tk : Tok)
  deriving Inhabited

def AVal.cells : AVal → List AVal
  | .agg cs => cs
  | v => [v]

/-- A value that lies in one cell. -/
def oneA : AVal → Bool
  | .undef | .agg _ | .tup _ => false
  | _ => true

def flat (xs : List AVal) : List AVal := xs.flatMap AVal.cells

inductive AObj where
  | dead
  | gone
  | cells (cs : List AVal) (t : Nat)
  | tail (n t : Nat)
  | arr (ver : Nat) (xs : List AVal)
  | map (es : List (AVal × AVal))
  deriving Inhabited

abbrev Heap := List AObj
abbrev Env := Nat → AVal

def upd (e : Env) (i : Nat) (v : AVal) : Env := fun j => if j = i then v else e j

inductive AX where
  | tmp (t : Nat) | const (v : AVal)
  deriving Inhabited

def ev (e : Env) : AX → AVal
  | .tmp t => e t
  | .const v => v

inductive ACmp where
  | ints | strs | bools | ifaceNil | struct (n : Nat) | ptrs | slices | maps | funcs
  deriving Inhabited

inductive AOp where
  | mv (x : AX)
  | pick (c a b : AX)
  | alloc (zero : List AVal) (t : Nat)
  | box (t : Nat) (x : AX)
  | build (zero : List AVal) (parts : List (Nat × Nat × AX))
  | lit (k bytes : Nat) (zero : List AVal) (n : Nat) (parts : List (Nat × AX))
  | load (k : Option Nat) (a : AX)
  | store (k : Nat) (a x : AX)
  | nilck (x : AX)
  | bin (op : BinOp) (x y : AX)
  | un (op : UnOp) (x : AX)
  | convInt (k : IntKind) (x : AX)
  | convStr (x : AX)
  | convB2S (x : AX)
  | convA2S (x : AX)
  | make (z : AVal) (t : Nat) (x : AX)
  | eqNil (k : Nat) (neg : Bool) (x : AX)
  | eqBool (neg : Bool) (x y : AX)
  | eqCells (ks : List Nat) (neg : Bool) (x y : AX)
  | mkI (t : Nat) (x : AX)
  | mkF (f : AFn) (first captured : List AX)
  | slcS (x : AX) (lo hi : Option AX)
  | slcL (k : Nat) (x : AX) (lo hi : Option AX)
  | faddr (off : Nat) (x : AX)
  | fld (off : Nat) (k : Option Nat) (x : AX)
  | iaddr (k : Nat) (x i : AX)
  | idxS (x i : AX)
  | ext (x : AX) (i : Nat)
  | lenS (x : AX)
  | lenL (x : AX)
  | append (k bytes t : Nat) (s x : AX)
  | appendS (bytes t : Nat) (s x : AX)
  | ssd (x : AX)
  | ustr (t : Nat) (p n : AX)
  | call (f : Nat) (args : List AX)
  | callv (f : AX) (args : List AX)
  | panic (x : AX)
  deriving Inhabited

structure AO where
  dst : Option Nat
  op : AOp
  guard : Option (Nat × Bool) := none
  deriving Inhabited

inductive AC where
  | skip
  | ops (l : List AO)
  | draw (soft hard : List AO)
  | drawc (soft hard : List AO)
  | seq (a b : AC)
  | cond (c : AX) (a b : AC)
  | block (id : Nat) (c : AC)
  | loop (c : AC)
  | exit (id : Nat)
  | ret
  | bad
  deriving Inhabited

inductive AExit where
  | normal | exit (id : Nat) | ret | pan (v : AVal)
  deriving Inhabited

inductive ARet where
  | ret (v : AVal) | pan (v : AVal)
  deriving Inhabited

/-- Where a result lies: in a slot, or in memory (a cell, or so many). -/
inductive ARes where
  | tmp (t : Nat) | cell (t : Nat) (k : Option Nat)
  deriving Inhabited

structure AFunc where
  nparams : Nat
  ntmps : Nat
  results : List ARes
  body : AC
  deriving Inhabited

/-! ### operations -/
def bytesLess : List UInt8 → List UInt8 → Bool
  | _, [] => false
  | [], _ :: _ => true
  | a :: x, b :: y => a < b || (a == b && bytesLess x y)

def evInt (op : BinOp) (k : IntKind) (a b : Int) : Option AVal :=
  match op with
  | .add => some (.int k (k.wrap (a + b)))
  | .sub => some (.int k (k.wrap (a - b)))
  | .mul => some (.int k (k.wrap (a * b)))
  | .quo => if b = 0 then none else some (.int k (k.wrap (a.tdiv b)))
  | .rem => if b = 0 then none else some (.int k (a.tmod b))
  | .and => some (.int k (k.wrap (BitVec.ofInt k.bits a &&& BitVec.ofInt k.bits b).toNat))
  | .or => some (.int k (k.wrap (BitVec.ofInt k.bits a ||| BitVec.ofInt k.bits b).toNat))
  | .xor => some (.int k (k.wrap (BitVec.ofInt k.bits a ^^^ BitVec.ofInt k.bits b).toNat))
  | .andNot => some (.int k (k.wrap (BitVec.ofInt k.bits a &&& ~~~ BitVec.ofInt k.bits b).toNat))
  | .eql => some (.bool (a == b))
  | .neq => some (.bool (a != b))
  | .lss => some (.bool (decide (a < b)))
  | .leq => some (.bool (decide (a ≤ b)))
  | .gtr => some (.bool (decide (a > b)))
  | .geq => some (.bool (decide (a ≥ b)))
  | _ => none

def maxStr : Nat := 2 ^ 63 - 1

def evStr (op : BinOp) (a b : List UInt8) : Option AVal :=
  match op with
  | .add => if a.length + b.length ≤ maxStr then some (.str (a ++ b)) else none
  | .eql => some (.bool (a == b))
  | .neq => some (.bool (!(a == b)))
  | .lss => some (.bool (bytesLess a b))
  | .leq => some (.bool (bytesLess a b || a == b))
  | .gtr => some (.bool (!(bytesLess a b || a == b)))
  | .geq => some (.bool (!bytesLess a b))
  | _ => none

def evBin (op : BinOp) (x y : AVal) : Option AVal :=
  match op, x, y with
  | .shl, .int k a, .int _ b => if b < 0 then none else some (.int k (k.wrap (a * 2 ^ (min b.toNat k.bits))))
  | .shr, .int k a, .int _ b => if b < 0 then none else some (.int k (a.fdiv (2 ^ (min b.toNat k.bits))))
  | op, .int k a, .int k' b => if k = k' then evInt op k a b else none
  | op, .str a, .str b => evStr op a b
  | _, _, _ => none

def evUn (op : UnOp) (x : AVal) : Option AVal :=
  match op, x with
  | .not, .bool b => some (.bool (!b))
  | .neg, .int k n => some (.int k (k.wrap (0 - n)))
  | _, _ => none

/-- Parts put into a row of cells. -/
def fillA : List AVal → List (Nat × List AVal) → List AVal
  | cs, [] => cs
  | cs, (o, v) :: rest => fillA (cs.take o ++ v ++ cs.drop (o + v.length)) rest

/-- The cells at a pointer, k of them. -/
def cellsAt (H : Heap) (a : AVal) (k : Nat) : Option (List AVal) :=
  match a with
  | .ptr id off => match H[id]? with
    | some (.cells cs _) => if off + k ≤ cs.length then some ((cs.drop off).take k) else none
    | _ => none
  | .lptr cs => if k ≤ cs.length then some (cs.take k) else none
  | _ => none

def loadAt (H : Heap) (k : Option Nat) (a : AVal) : Option AVal :=
  match k with
  | none => match cellsAt H a 1 with
    | some [c] => some c
    | _ => none
  | some k => (cellsAt H a k).map .agg

def storeAt (H : Heap) (k : Nat) (a x : AVal) : Option Heap :=
  match a with
  | .ptr id off => match H[id]? with
    | some (.cells cs t) => if x.cells.length = k ∧ off + k ≤ cs.length then some (H.set id (.cells (cs.take off ++ x.cells ++ cs.drop (off + k)) t)) else none
    | _ => none
  | _ => none

def boundI : Option AVal → Nat → Option Nat
  | none, d => some d
  | some (.int _ i), _ => if 0 ≤ i then some i.toNat else none
  | _, _ => none

end Go.Ag

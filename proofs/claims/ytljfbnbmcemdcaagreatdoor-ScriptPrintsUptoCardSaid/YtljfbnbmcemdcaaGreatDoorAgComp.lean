/- From the machine's code to abstract code: a function that looks types and functions up, and refuses what it doesn't know. -/
import Derived.Test.YtljfbnbmcemdcaaGreatDoorAgWorld
namespace Go.Ag
open Go

/-- Our numbers of a program's functions and types, as told (checked where they are used). -/
structure Tab where
  L : Lnk
  fg : Nat → Nat
  tg : Nat → Nat
  /-- Are slices of bytes that are turned into text arrays that have been written? -/
  am : Bool := false

def cScal : Value → Option AVal
  | .bool b => some (.bool b)
  | .int k n => some (.int k n)
  | .string s => some (.str s.data.toList)
  | .pointer none => some .nilptr
  | .slice none 0 0 => some (.lst [] .nil)
  | .map none => some .nilmap
  | .nilFunc => some .nilfn
  | .nilIface => some .niliface
  | _ => none

def cScals : List Value → Option (List AVal)
  | [] => some []
  | v :: vs => match cScal v, cScals vs with
    | some x, some xs => some (x :: xs)
    | _, _ => none

def cVal : Value → Option AVal
  | .agg cs => (cScals cs.toList).map .agg
  | v => cScal v

def Tab.fn (T : Tab) (f : Nat) : Option Nat :=
  if T.L.num (T.fg f) = f then match T.L.P.funcs[f]? with
    | some fn => if fn.body.isSome && !(fn.name == "runtime.NumGoroutine") then some (T.fg f) else none
    | none => none
  else none

def Tab.ty (T : Tab) (t : Nat) : Option Nat := if T.L.ty (T.tg t) = t then some (T.tg t) else none

def cX (T : Tab) : Operand → Option AX
  | .tmp t => some (.tmp t)
  | .const v => (cVal v).map .const
  | .func f => (T.fn f).map fun g => .const (.fn (.func g) [] [])
  | .global _ => none

def cXs (T : Tab) : List Operand → Option (List AX)
  | [] => some []
  | x :: xs => match cX T x, cXs T xs with
    | some a, some as => some (a :: as)
    | _, _ => none

def cXo (T : Tab) : Option Operand → Option (Option AX)
  | none => some none
  | some x => (cX T x).map some

/-- A type's size as an aggregate (none: it is one cell of its own). -/
def Tab.agg (T : Tab) (t : Nat) : Option (Option Nat) :=
  match T.L.P.underlying t, T.L.P.info? t with
  | some (.struct _), some i => some (some i.size)
  | some (.array _ _), some i => some (some i.size)
  | some _, some _ => some none
  | _, _ => none

/-- Where a struct's fields lie, and how great they are. -/
def Tab.places (T : Tab) (fs : List Field) : Option (List (Nat × Nat)) := fs.mapM fun f => (T.L.P.info? f.type).map fun i => (f.offset, i.size)

def cParts (T : Tab) (places : List (Nat × Nat)) : List (Nat × Operand) → Option (List (Nat × Nat × AX))
  | [] => some []
  | (i, x) :: ps => match places[i]?, cX T x, cParts T places ps with
    | some f, some a, some as => some ((f.1, f.2, a) :: as)
    | _, _, _ => none

def cElems (T : Tab) : Nat → List (Nat × Operand) → Option (List (Nat × AX))
  | _, [] => some []
  | n, (i, x) :: ps => if i = n then match cX T x, cElems T (n + 1) ps with
      | some a, some as => some ((i, a) :: as)
      | _, _ => none
    else none

/-- The kind of nil that this operand is, literally, at this type. -/
def nilOf (T : Tab) (t : Nat) : Operand → Option Nat
  | .const .nilIface => match T.L.P.underlying t with | some (.interface _) => some 0 | _ => none
  | .const .nilFunc => match T.L.P.underlying t with | some (.func _ _ _) => some 1 | _ => none
  | .const (.pointer none) => match T.L.P.underlying t with | some (.pointer _) => some 2 | _ => none
  | .const (.slice none 0 0) => match T.L.P.underlying t with | some (.slice _) => some 3 | _ => none
  | .const (.map none) => match T.L.P.underlying t with | some (.map _ _) => some 4 | _ => none
  | _ => none

/-- The kinds of a struct's fields, one behind the other, each a plain cell. -/
def plainFields (T : Tab) : Nat → List Field → Option (List Nat)
  | _, [] => some []
  | n, f :: fs => if f.offset = n ∧ f.name ≠ "_" then match T.L.P.underlying f.type, plainFields T (n + 1) fs with
      | some (.int _), some ks => some (0 :: ks)
      | some .string, some ks => some (1 :: ks)
      | some .bool, some ks => some (2 :: ks)
      | _, _ => none
    else none

def isNeq : BinOp → Bool
  | .neq => true
  | _ => false

def cEq (T : Tab) (op : BinOp) (t : Nat) (x y : Operand) : Option AOp :=
  if op = .eql ∨ op = .neq then match nilOf T t y with
    | some k => (cX T x).map (.eqNil k (isNeq op))
    | none => match cX T x, cX T y with
      | some ax, some ay => match T.L.P.underlying t with
        | some .bool => some (.eqBool (isNeq op) ax ay)
        | some (.struct fs) => if T.L.P.stoodInHeld t = false ∧ T.L.P.eqGuardType T.L.P.depth t = false then (plainFields T 0 fs.toList).map fun ks => .eqCells ks (isNeq op) ax ay else none
        | _ => none
      | _, _ => none
  else none

def cAppend (T : Tab) (t : Nat) (s x : AX) : Option AOp :=
  match T.L.P.underlying t with
  | some (.slice e) => match T.L.P.info? e, T.ty e with
    | some i, some te => match i.zero with
      | some z => if z.cells.size = i.size ∧ 0 < i.size ∧ 0 < i.bytes then some (.append i.size i.bytes te s x) else none
      | none => none
    | _, _ => none
  | _ => none

/-- A string's bytes put behind a list of bytes. -/
def cAppendS (T : Tab) (t u : Nat) (s x : AX) : Option AOp :=
  match T.L.P.underlying t, T.L.P.underlying u with
  | some (.slice e), some .string => match T.L.P.info? e, T.ty e with
    | some i, some te => match i.zero with
      | some z => if z.cells.size = i.size ∧ i.size = 1 ∧ 0 < i.bytes then some (.appendS i.bytes te s x) else none
      | none => none
    | _, _ => none
  | _, _ => none

def cOp (T : Tab) (o : Oper) : Option AOp :=
  match o.op with
  | .move x => (cX T x).map .mv
  | .assign x => (cX T x).map .mv
  | .pick c a b => match cX T c, cX T a, cX T b with
    | some c, some a, some b => some (.pick c a b)
    | _, _, _ => none
  | .alloc t => match T.L.P.info? t, T.ty t with
    | some i, some tt => match i.zero with
      | some z => (cScals z.cells.toList).map fun zs => .alloc zs tt
      | none => none
    | _, _ => none
  | .box t x => match T.ty t, cX T x with
    | some tt, some x => some (.box tt x)
    | _, _ => none
  | .build t ps => match T.L.P.underlying t, T.L.P.info? t with
    | some (.struct fs), some i => match i.zero with
      | some z => match cScals z.cells.toList, T.places fs.toList with
        | some zs, some places => (cParts T places ps.toList).map (.build zs)
        | _, _ => none
      | none => none
    | _, _ => none
  | .buildSlice t n ps => match T.L.P.underlying t with
    | some (.slice e) => match T.L.P.info? e with
      | some i => match i.zero, cElems T 0 ps.toList with
        | some z, some as => if as.length = n ∧ n * i.size ≤ 2 ^ 24 ∧ z.cells.size = i.size ∧ 0 < i.size then some (.lit i.size i.bytes [] n as) else none
        | _, _ => none
      | none => none
    | _ => none
  | .load t a => match T.agg t, cX T a with
    | some k, some a => some (.load k a)
    | _, _ => none
  | .store t a x => match T.L.P.info? t, cX T a, cX T x with
    | some i, some a, some x => some (.store i.size a x)
    | _, _, _ => none
  | .nilCheck x => (cX T x).map .nilck
  | .binOp op t x y _ => match cEq T op t x y with
    | some q => some q
    | none => match cX T x, cX T y with
      | some x, some y => some (.bin op x y)
      | _, _ => none
  | .unOp op _ x => (cX T x).map (.un op)
  | .convert s d x => match T.L.P.underlying s, T.L.P.underlying d, cX T x with
    | some _, some (.int k), some x => some (.convInt k x)
    | some (.slice e), some .string, some x => match T.L.P.underlying e with
      | some (.int .u8) => if T.am = true then some (.convA2S x) else some (.convB2S x)
      | _ => none
    | some _, some .string, some x => some (.convStr x)
    | _, _, _ => none
  | .makeInterface t x => match T.L.P.underlying t, T.ty t, cX T x with
    | some (.interface _), _, _ => none
    | some _, some t, some x => some (.mkI t x)
    | _, _, _ => none
  | .makeFunc (.func f) fi ca => match T.fn f, cXs T fi.toList, cXs T ca.toList with
    | some g, some fi, some ca => some (.mkF (.func g) fi ca)
    | _, _, _ => none
  | .slice t x lo hi none => match T.L.P.underlying t, cX T x, cXo T lo, cXo T hi with
    | some .string, some x, some lo, some hi => some (.slcS x lo hi)
    | some (.slice e), some x, some lo, some hi => (T.L.P.info? e).map fun i => .slcL i.size x lo hi
    | _, _, _, _ => none
  | .fieldAddr t x f => match T.L.P.underlying t, cX T x with
    | some (.struct fs), some x => match fs[f]? with
      | some fd => match T.L.P.info? fd.type with
        | some i => if i.size = 0 then none else some (.faddr fd.offset x)
        | none => none
      | none => none
    | _, _ => none
  | .field t x f => match T.L.P.underlying t, cX T x with
    | some (.struct fs), some x => match fs[f]? with
      | some fd => (T.agg fd.type).map fun k => .fld fd.offset k x
      | none => none
    | _, _ => none
  | .makeSlice t (.tmp i) (.tmp j) => if i = j then match T.L.P.underlying t with
      | some (.slice e) => match T.L.P.info? e, T.ty e with
        | some inf, some te => match inf.zero with
          | some z => if inf.size = 1 ∧ inf.bytes ≤ 256 ∧ z.cells.size = 1 then match cScals z.cells.toList with
              | some [v] => some (.make v te (.tmp i))
              | _ => none
            else none
          | none => none
        | _, _ => none
      | _ => none
    else none
  | .indexAddr t x i => match T.L.P.underlying t, cX T x, cX T i with
    | some (.slice e), some x, some i => (T.L.P.info? e).map fun inf => .iaddr inf.size x i
    | _, _, _ => none
  | .index t x i => match T.L.P.underlying t, cX T x, cX T i with
    | some .string, some x, some i => some (.idxS x i)
    | _, _, _ => none
  | .extract x i => (cX T x).map fun x => .ext x i
  | .call { callee := .value (.func f), args, .. } => match T.fn f, cXs T args.toList with
    | some g, some as => some (.call g as)
    | _, _ => none
  | .call { callee := .value (.tmp t), args, .. } => (cXs T args.toList).map fun as => .callv (.tmp t) as
  | .call { callee := .builtin .len, args, argTypes } => match argTypes.toList, args.toList with
    | [t], [x] => match T.L.P.underlying t, cX T x with
      | some .string, some x => some (.lenS x)
      | some (.slice _), some x => some (.lenL x)
      | _, _ => none
    | _, _ => none
  | .call { callee := .builtin .append, args, argTypes } => match argTypes.toList, args.toList with
    | [t, u], [s, x] => match cX T s, cX T x with
      | some s, some x => if t = u then cAppend T t s x else cAppendS T t u s x
      | _, _ => none
    | _, _ => none
  | .call { callee := .builtin .unsafeSliceData, args, .. } => match args.toList with
    | [x] => (cX T x).map .ssd
    | _ => none
  | .call { callee := .builtin .unsafeString, args, argTypes } => match argTypes.toList, args.toList with
    | [pt, _], [p, n] => match T.L.P.underlying pt, cX T p, cX T n with
      | some (.pointer e), some p, some n => if T.L.P.cellsOf e = 1 then (T.ty e).map fun te => .ustr te p n else none
      | _, _, _ => none
    | _, _ => none
  | .panic x => (cX T x).map .panic
  | _ => none

def dstOK (n : Nat) : Option Nat → Bool
  | some d => decide (d < n)
  | none => true

def cOper (T : Tab) (n : Nat) (ops : Array Oper) (o : Oper) : Option AO :=
  match cOp T o with
  | none => none
  | some q => if dstOK n o.dst = true then match o.guard with
    | none => some { dst := o.dst, op := q }
    | some (j, want) => match ops[j]? with
      | some oj => match oj.dst with
        | some t => some { dst := o.dst, op := q, guard := some (t, want) }
        | none => none
      | none => none
    else none

def cOpers (T : Tab) (n : Nat) (ops : Array Oper) : List Oper → Option (List AO)
  | [] => some []
  | o :: os => match cOper T n ops o, cOpers T n ops os with
    | some a, some as => some (a :: as)
    | _, _ => none

/-- What each operation waits for, directly or through others: a row of bits each. -/
def masks : List Oper → List Nat → List Nat
  | [], acc => acc
  | o :: os, acc => masks os (acc ++ [(o.after.toList.filter fun e => Region.binds .any e).foldl (fun m e => (m ||| 1 <<< e.on) ||| acc.getD e.on 0) 0])

def waits (M : List Nat) (j i : Nat) : Bool := (M.getD j 0).testBit i

def AX.slots : AX → List Nat
  | .tmp t => [t]
  | .const _ => []

def AOp.xs : AOp → List AX
  | .alloc _ _ => []
  | .mv x | .box _ x | .ssd x | .nilck x | .un _ x | .convInt _ x | .convStr x | .convB2S x | .convA2S x | .make _ _ x | .eqNil _ _ x | .mkI _ x | .faddr _ x | .fld _ _ x | .ext x _ | .lenS x | .lenL x | .panic x | .load _ x => [x]
  | .pick c a b => [c, a, b]
  | .build _ ps => ps.map (·.2.2)
  | .lit _ _ _ _ ps => ps.map (·.2)
  | .store _ a x => [a, x]
  | .bin _ x y | .eqBool _ x y | .eqCells _ _ x y | .iaddr _ x y | .idxS x y | .append _ _ _ x y | .appendS _ _ x y | .ustr _ x y => [x, y]
  | .mkF _ fi ca => fi ++ ca
  | .slcS x lo hi | .slcL _ x lo hi => x :: (lo.toList ++ hi.toList)
  | .call _ as => as
  | .callv f as => f :: as

/-- The slots that an operation looks at, its guard's among them. -/
def AO.looks (o : AO) : List Nat := o.op.xs.flatMap AX.slots ++ (match o.guard with | some (t, _) => [t] | none => [])

/-- Of two operations (the first i, the second j): does the second wait for the first, where it must? -/
def pairOK (M : List Nat) (i j : Nat) (oi oj : AO) : Bool :=
  (match oi.dst with
   | some d => (!(oj.looks).contains d && oj.dst != some d) || waits M j i
   | none => true) &&
  (match oj.dst with
   | some d => !(oi.looks).contains d || waits M j i
   | none => true)

/-- What makes a new variable does so by name. -/
def makes (o : Oper) (ao : AO) : Bool :=
  match ao.op with
  | .alloc _ _ => match o.op with | .alloc _ => true | _ => false
  | .box _ _ => match o.op with | .box _ _ => true | _ => false
  | _ => true

def isLight : AOp → Bool
  | .alloc _ _ | .box _ _ | .load _ _ | .call _ _ | .callv _ _ | .store _ _ _ | .append _ _ _ _ _ | .appendS _ _ _ _ | .ustr _ _ _ | .panic _ | .convA2S _ | .make _ _ _ => false
  | _ => true

def isNew : AOp → Bool
  | .alloc _ _ | .box _ _ => true
  | _ => false

/-- An operation that changes no variable that there was. -/
def isKeep : AOp → Bool
  | .alloc _ _ | .box _ _ | .load _ _ | .append _ _ _ _ _ | .appendS _ _ _ _ => true
  | q => isLight q

def isCall : AOp → Bool
  | .call _ _ | .callv _ _ => true
  | _ => false

def isLoad : AOp → Bool
  | .load _ _ => true
  | _ => false

/-- Of an early operation s and a late one l, where l doesn't wait for s: is it all one which comes up first? -/
def crossOK (cx : Bool) (s l : AO) : Bool :=
  !isNew s.op && (isKeep l.op || isLight s.op || (cx && isCall l.op && isLoad s.op)) &&
  (match s.dst with
   | some d => !(l.looks).contains d && l.dst != some d
   | none => true) &&
  (match l.dst with
   | some d => !(s.looks).contains d
   | none => true)

/-- Which operations are early: soft ones that wait for none that isn't. -/
def flags (calls : Bool) (M : List Nat) : List AO → Nat → List Bool → List Bool
  | [], _, acc => acc
  | o :: os, i, acc => flags calls M os (i + 1) (acc ++ [isSoft o.op && (calls || !isCall o.op) && (List.range i).all fun k => !waits M i k || acc.getD k false])

def isOnL (fl : List Bool) (i : Nat) : Bool := fl.getD i false

def earlyL (E : Nat → Bool) : Nat → List AO → List AO
  | _, [] => []
  | k, o :: os => if E k then o :: earlyL E (k + 1) os else earlyL E (k + 1) os

def lateL (E : Nat → Bool) : Nat → List AO → List (Nat × AO)
  | _, [] => []
  | k, o :: os => if E k then lateL E (k + 1) os else (k, o) :: lateL E (k + 1) os

/-- Early operations may come up in any order that their edges allow; late ones come up in theirs. -/
def drawOK (cx : Bool) (ops : Array Oper) (as : List AO) (M : List Nat) (E : Nat → Bool) : Bool :=
  ((List.range ops.size).all fun j => match ops[j]?, as[j]? with
    | some oj, some aj => (makes oj aj && oj.after.toList.all fun e => decide (e.on < j) || !Region.binds .any e) &&
      ((List.range ops.size).all fun i => match as[i]? with
        | some ai => match E j, E i with
          | true, true => decide (j ≤ i) || pairOK M i j ai aj
          | false, false => decide (j ≤ i) || waits M j i
          | false, true => waits M j i || crossOK cx ai aj
          | true, false => true
        | none => false)
    | _, _ => false)

/-- What an early load looks at, no early operation at it or behind it writes. -/
def loadsOK (as : List AO) (E : Nat → Bool) : Bool :=
  (List.range as.length).all fun i => match as[i]? with
    | some oi => !(E i && isLoad oi.op) || (List.range as.length).all fun j => match as[j]? with
      | some oj => decide (j < i) || !E j || (match oj.dst with
        | some d => !(oi.looks).contains d
        | none => true)
      | none => true
    | none => true

def cCode (m : Bool) (T : Tab) (n : Nat) : Code → Option AC
  | .skip => some .skip
  | .label _ => some .skip
  | .region _ ops d => match cOpers T n ops ops.toList with
    | some l => if d then
        if T.L.P.follows .mixedOrders = true then
          let E := isOnL (flags false (masks ops.toList []) l 0 [])
          if drawOK false ops l (masks ops.toList []) E = true then some (.draw (earlyL E 0 l) ((lateL E 0 l).map (·.2)))
          else if (m && drawOK true ops l (masks ops.toList []) E && loadsOK l E) = true then some (.drawc (earlyL E 0 l) ((lateL E 0 l).map (·.2)))
          else
            let E := isOnL (flags true (masks ops.toList []) l 0 [])
            if drawOK false ops l (masks ops.toList []) E = true then some (.draw (earlyL E 0 l) ((lateL E 0 l).map (·.2))) else none
        else none
      else some (.ops l)
    | none => none
  | .seq a b => match cCode m T n a, cCode m T n b with
    | some a, some b => some (.seq a b)
    | _, _ => none
  | .cond c a b => match cX T c, cCode m T n a, cCode m T n b with
    | some c, some a, some b => some (.cond c a b)
    | _, _, _ => none
  | .block id c => (cCode m T n c).map (.block id)
  | .loop c => (cCode m T n c).map .loop
  | .exit id => some (.exit id)
  | .ret => some .ret
  | _ => none

def cRes (T : Tab) : List ResultVar → Option (List ARes)
  | [] => some []
  | .tmp t :: rs => (cRes T rs).map (.tmp t :: ·)
  | .cell a t :: rs => match T.agg t, cRes T rs with
    | some k, some as => some (.cell a k :: as)
    | _, _ => none

/-- m: calls that change things may come late in drawn regions. -/
def cFunc (m : Bool) (T : Tab) (fn : Func) : Option AFunc :=
  match fn.body with
  | none => none
  | some c => match cCode m T fn.ntmps c, cRes T fn.results.toList with
    | some b, some rs => some { nparams := fn.params.size + fn.nfree, ntmps := fn.ntmps, results := rs, body := b }
    | _, _ => none

/-- A function of the program bears our number, and our code. -/
def Tab.has (T : Tab) (g : Nat) (af : AFunc) : Prop := ∃ fn, T.L.P.funcs[T.L.num g]? = some fn ∧ ∃ m am, cFunc m { T with am := am } fn = some af

end Go.Ag

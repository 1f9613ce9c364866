/- Our texts, joined by a program of ours (join.py): part 1 of 9. -/
import Derived.Calls
import Derived.Below
import Derived.RangeFuncRecord
import Derived.Laws.Entries
import Derived.Laws.OwnMore
import Derived.Laws.Strings
set_option linter.unusedVariables false
/- The abstract machine of this work: values, heap, code; a condition ('xcode') that a run of abstract code meets a post. No Go program in sight. -/
namespace Go.Ag
open Go
inductive Tok where
 |nil|full|tail (id:Nat)|none
 deriving Repr,DecidableEq,Inhabited
inductive AFn where
 |func (g:Nat)|yield (l:Nat)
 deriving Repr,DecidableEq,Inhabited
inductive au where
 |undef
 |bool (b:Bool)
 |int (k:IntKind) (n:Int)
 |str (s:List UInt8)
 |ptr (id off:Nat)
 |eD
 |lZ (cs:List au)
 |lst (xs:List au) (tk:Tok)
 |arr (id ver off len:Nat)
 |map (id:Nat)
 |gW
 |fn (f:AFn) (first captured:List au)
 |lM
 |iface (t:Nat) (v:au)
 |eT
 |agg (cs:List au)
 |tup (vs:List au)
 |qN (xs:List au) (tk:Tok)
 |yld (id:Nat)
 |vec (id ver k off len:Nat)
 |jv (id ver off:Nat)
 deriving Inhabited
def au.cells :au→List au
 |.agg cs=>cs
 |v=>[v]
def uJ :au→Bool
 |.undef|.agg _|.tup _=>false
 |_=>true
def flat (xs:List au):List au:=xs.flatMap au.cells
abbrev Env :=Nat→au
structure rQ where
 fn:FuncId
 tmps:Array Value
 params:Array Tmp
 assign:Code
 body:Code
 defers:Nat
 e:Env
inductive LSt where
 |ready|busy|ret|exit (id:Nat)
 deriving Inhabited
def LSt.state :LSt→LoopState
 |.ready=>.ready
 |.busy=>.busy
 |_=>.done
def LSt.pending :LSt→Option Code
 |.ret=>some .ret
 |.exit id=>some (.exit id)
 |_=>none
def rQ.loop (r:rQ) (st:LSt):Loop:=
 {state:=st.state,pending:=st.pending,fn:=r.fn,tmps:=r.tmps,params:=r.params,assign:=r.assign,body:=r.body,defers:=r.defers}
inductive aU where
 |dead
 |gone
 |cells (cs:List au) (t:Nat)
 |tail (n t:Nat)
 |arr (ver:Nat) (xs:List au) (t:Nat)
 |map (es:List (au×au×Nat)) (clock:Nat)
 |iJ (m:Option Nat) (since:Nat) (seen:List Nat) (last:Nat)
 |loop (r:rQ) (st:LSt)
 deriving Inhabited
abbrev Heap :=List aU
def upd (e:Env) (i:Nat) (v:au):Env:=fun j=>if j=i then v else e j
inductive AX where
 |tmp (t:Nat)|const (v:au)
 deriving Inhabited
def ev (e:Env):AX→au
 |.tmp t=>e t
 |.const v=>v
inductive AOp where
 |mv (x:AX)
 |pick (c a b:AX)
 |alloc (zero:List au) (t:Nat)
 |box (t:Nat) (x:AX)
 |build (zero:List au) (parts:List (Nat×Nat×AX))
 |lit (k bytes:Nat) (zero:List au) (n:Nat) (parts:List (Nat×AX))
 |load (k:Option Nat) (a:AX)
 |store (k:Nat) (a x:AX)
 |aJ (x:AX)
 |bin (op:BinOp) (x y:AX)
 |un (op:UnOp) (x:AX)
 |pz (k:IntKind) (x:AX)
 |wN (x:AX)
 |zu (x:AX)
 |pE (x:AX)
 |make (z:au) (t:Nat) (x:AX)
 |eqNil (k:Nat) (neg:Bool) (x:AX)
 |qz (neg:Bool) (x y:AX)
 |bT (ks:List Nat) (neg:Bool) (x y:AX)
 |mkI (t:Nat) (x:AX)
 |mkF (f:AFn) (first captured:List AX)
 |wW (x:AX) (lo hi:Option AX)
 |yK (k:Nat) (x:AX) (lo hi:Option AX)
 |aB (off:Nat) (x:AX)
 |fld (off:Nat) (k:Option Nat) (x:AX)
 |aV (k:Nat) (x i:AX)
 |zf (x i:AX)
 |ext (x:AX) (i:Nat)
 |qx (x:AX)
 |jo (x:AX)
 |append (k bytes t:Nat) (s x:AX)
 |jY (bytes t:Nat) (s x:AX)
 |ssd (x:AX)
 |GR (t:Nat) (p n:AX)
 |call (f:Nat) (args:List AX)
 |fJ (f:AX) (args:List AX)
 |panic (x:AX)
 |mkMap
 |look (kk:Nat) (zero:au) (ok:Bool) (m k:AX)
 |ug (kk:Nat) (m k v:AX)
 |uo (m:AX)
 |rO (m:AX)
 |vC (it:AX)
 |oG (it:AX)
 |clr (k:Nat) (z:au) (x:AX)
 |Ik (k t:Nat) (parts:List (Nat×AX))
 deriving Inhabited
structure AO where
 dst:Option Nat
 op:AOp
 guard:Option (Nat×Bool):=none
 deriving Inhabited
inductive LT where
 |done|stop|bad
 |alt (o:AO) (ks:List (Option Nat×AX)) (t more:LT)
 deriving Inhabited
inductive AC where
 |skip
 |ops (l:List AO)
 |draw (soft hard:List AO)
 |iy (soft:List AO) (t:LT)
 |seq (a b:AC)
 |cond (c:AX) (a b:AC)
 |block (id:Nat) (c:AC)
 |loop (c:AC)
 |exit (id:Nat)
 |ret
 |bad
 |tO (f:AX) (ps:List Nat) (asg body:AC)
 deriving Inhabited
inductive BJ where
 |normal|exit (id:Nat)|ret|pan (v:au)
 deriving Inhabited
inductive fE where
 |ret (v:au)|pan (v:au)
 deriving Inhabited
inductive LW where
 |tmp (t:Nat)|cell (t:Nat) (k:Option Nat)
 deriving Inhabited
structure aM where
 nparams:Nat
 ntmps:Nat
 results:List LW
 body:AC
 deriving Inhabited
def bytesLess :List UInt8→List UInt8→Bool
 |_,[]=>false
 |[],_::_=>true
 |a::x,b::y=>a<b||(a==b&&bytesLess x y)
def T9 (op:BinOp) (k:IntKind) (a b:Int):Option au:=
 match op with
 |.add=>some (.int k (k.wrap (a+b)))
 |.sub=>some (.int k (k.wrap (a-b)))
 |.mul=>some (.int k (k.wrap (a*b)))
 |.quo=>if b=0 then none else some (.int k (k.wrap (a.tdiv b)))
 |.rem=>if b=0 then none else some (.int k (a.tmod b))
 |.and=>some (.int k (k.wrap (BitVec.ofInt k.bits a&&&BitVec.ofInt k.bits b).toNat))
 |.or=>some (.int k (k.wrap (BitVec.ofInt k.bits a|||BitVec.ofInt k.bits b).toNat))
 |.xor=>some (.int k (k.wrap (BitVec.ofInt k.bits a^^^BitVec.ofInt k.bits b).toNat))
 |.andNot=>some (.int k (k.wrap (BitVec.ofInt k.bits a&&& ~~~ BitVec.ofInt k.bits b).toNat))
 |.eql=>some (.bool (a==b))
 |.neq=>some (.bool (a !=b))
 |.lss=>some (.bool (decide (a<b)))
 |.leq=>some (.bool (decide (a≤b)))
 |.gtr=>some (.bool (decide (a>b)))
 |.geq=>some (.bool (decide (a≥b)))
 |_=>none
def Ic :Nat:=2^63-1
def TY (op:BinOp) (a b:List UInt8):Option au:=
 match op with
 |.add=>if a.length+b.length≤Ic then some (.str (a ++b))else none
 |.eql=>some (.bool (a==b))
 |.neq=>some (.bool (!(a==b)))
 |.lss=>some (.bool (bytesLess a b))
 |.leq=>some (.bool (bytesLess a b||a==b))
 |.gtr=>some (.bool (!(bytesLess a b||a==b)))
 |.geq=>some (.bool (!bytesLess a b))
 |_=>none
def Ec (op:BinOp) (x y:au):Option au:=
 match op,x,y with
 |.shl,.int k a,.int _ b=>if b<0 then none else some (.int k (k.wrap (a*2^(min b.toNat k.bits))))
 |.shr,.int k a,.int _ b=>if b<0 then none else some (.int k (a.fdiv (2^(min b.toNat k.bits))))
 |op,.int k a,.int k' b=>if k=k' then T9 op k a b else none
 |op,.str a,.str b=>TY op a b
 |_,_,_=>none
def Ri (op:UnOp) (x:au):Option au:=
 match op,x with
 |.not,.bool b=>some (.bool (!b))
 |.neg,.int k n=>some (.int k (k.wrap (0-n)))
 |_,_=>none
def Bv :List au→List (Nat×List au)→List au
 |cs,[]=>cs
 |cs,(o,v)::rest=>Bv (cs.take o ++v ++cs.drop (o+v.length)) rest
def fI (H:Heap) (a:au) (k:Nat):Option (List au):=
 match a with
 |.ptr id off=>match H[id]? with
  |some (.cells cs _)=>if off+k≤cs.length then some ((cs.drop off).take k)else none
  |_=>none
 |.lZ cs=>if k≤cs.length then some (cs.take k)else none
 |.jv id ver off=>match H[id]? with
  |some (.arr v xs _)=>if v=ver∧off+k≤(flat xs).length then some (((flat xs).drop off).take k)else none
  |_=>none
 |_=>none
def loadAt (H:Heap) (k:Option Nat) (a:au):Option au:=
 match k with
 |none=>match fI H a 1 with
  |some [c]=>some c
  |_=>none
 |some k=>(fI H a k).map .agg
def storeAt (H:Heap) (k:Nat) (a x:au):Option Heap:=
 match a with
 |.ptr id off=>match H[id]? with
  |some (.cells cs t)=>if x.cells.length=k∧off+k≤cs.length then some (H.set id (.cells (cs.take off ++x.cells ++cs.drop (off+k)) t))else none
  |_=>none
 |.jv id ver off=>match H[id]? with
  |some (.arr v xs t)=>if v=ver∧x.cells.length=k∧off=off/k*k∧off/k<xs.length∧(xs.all fun y=>y.cells.length==k)=true then some (H.set id (.arr v (xs.take (off/k) ++[x] ++xs.drop (off/k+1)) t))else none
  |_=>none
 |_=>none
def IV (k:Nat) (z:au) (H:Heap) (v:au):Option Heap:=
 match v with
 |.lst [] _=>some H
 |.vec id ver k' off len=>match len with
  |0=>some H
  |len+1=>match H[id]? with
   |some (.arr v xs t)=>if v=ver∧k'=k∧off+(len+1)≤xs.length∧(xs.all fun y=>y.cells.length==k)=true then some (H.set id (.arr v (xs.take off ++List.replicate (len+1) z ++xs.drop (off+(len+1))) t))else none
   |_=>none
 |_=>none
def fO :Option au→Nat→Option Nat
 |none,d=>some d
 |some (.int _ i),_=>if 0≤i then some i.toNat else none
 |_,_=>none
abbrev AO.d (n:Nat) (q:AOp):AO:=⟨some n,q,none⟩
abbrev AO.n (q:AOp):AO:=⟨none,q,none⟩
abbrev AO.g (n:Nat) (q:AOp) (v:Nat) (b:Bool):AO:=⟨some n,q,some (v,b)⟩
abbrev au.i (n:Int):au:=.int .i64 n
abbrev au.nl :au:=.lst [] .nil
instance (n : Nat) : OfNat AX n := ⟨.tmp n⟩
instance (n : Nat) : OfNat LW n := ⟨.tmp n⟩
end Go.Ag
/- How abstract values and heaps stand for the machine's values and worlds; the abstract contract of a call. -/
namespace Go.Ag
open Go
open Go.RowKit (Below)
structure Lnk where
 P : Program
 num : Nat → Nat
 ty : Nat → Nat
 /-- What is known of the world at the start, and of the blocks that no call changes. -/
 start : World → Nat → Prop
structure ko where
 b:Nat
 s:Nat
 z:Nat
 k:Nat
structure aA where
 w0 : World
 base : Nat
 fz : Nat → Nat → Option Value
 ob : Nat → Nat → Option ko
 /-- Blocks that stay as they are. -/
 kp : Nat → Option Obj
 /-- Blocks for deferred calls of rounds, none laid as yet. -/
 dk : Nat → Bool
def aA.own (g:aA) (b:Nat):Prop:=g.base≤b∧g.kp b=none
structure aA.le (g g':aA):Prop where
 w0:g'.w0=g.w0
 base:g'.base=g.base
 fz:∀b o v,g.fz b o=some v→g'.fz b o=some v
 ob:∀i k s,g.ob i k=some s→g'.ob i k=some s
 kp:g'.kp=g.kp
 fzk:∀b o,g.kp b≠none→g'.fz b o=g.fz b o
 dk:∀b,g.dk b=true→g'.dk b=true
theorem aA.le.refl (g:aA):g.le g:=⟨rfl,rfl,fun _ _ _ h=>h,fun _ _ _ h=>h,rfl,fun _ _ _=>rfl,fun _ h=>h⟩
theorem aA.le.trans {a b c:aA} (h:a.le b) (h':b.le c):a.le c:=
  ⟨h'.w0.trans h.w0,h'.base.trans h.base,fun b o v x=>h'.fz b o v (h.fz b o v x),fun i k s x=>h'.ob i k s (h.ob i k s x),h'.kp.trans h.kp,
   fun b o x=>(h'.fzk b o (by rw[h.kp];exact x)).trans (h.fzk b o x),fun b x=>h'.dk b (h.dk b x)⟩
theorem aA.le.own {a b:aA} (h:a.le b) {k:Nat} (ho:a.own k):b.own k:=⟨by rw[h.base];exact ho.1,by rw[h.kp];exact ho.2⟩
def Lnk.callable (L:Lnk) (g:Nat):Prop:=∃fn,L.P.funcs[L.num g]?=some fn∧fn.body.isSome=true∧(fn.name== "runtime.NumGoroutine")=false
def LP (L:Lnk):Fn→AFn→Prop
 |.func f,.func g=>f=L.num g∧L.callable g
 |.yield l,.yield l'=>l=l'
 |_,_=>False
def oz (g:aA) (a:Option Addr) (n c k:Nat):Tok→Prop
 |.nil=>a=none∧c=0
 |.full=>c=n
 |.none=>True
 |.tail id=>∃s,g.ob id n=some s∧a=some ⟨s.b,s.s,none⟩∧s.k=k∧s.s+c*k≤s.z∧0<k∧0<n
mutual
inductive Rep (L:Lnk) (g:aA):Value→au→Prop where
 |undef (v:Value):Rep L g v .undef
 |bool (b:Bool):Rep L g (.bool b) (.bool b)
 |int (k:IntKind) (n:Int):Rep L g (.int k n) (.int k n)
 |str (s:List UInt8):Rep L g (.string ⟨s.toArray⟩) (.str s)
 |ptr (id off:Nat) (s:ko) (h:g.ob id 0=some s) (h0:s.s=0):Rep L g (.pointer (some ⟨s.b,off,none⟩)) (.ptr id off)
 |eD:Rep L g (.pointer none) .eD
 |lZ (b o:Nat) (vs:List Value) (cs:List au) (hf:∀j v,vs[j]?=some v→g.fz b (o+j)=some v) (hr:aX L g vs cs):
   Rep L g (.pointer (some ⟨b,o,none⟩)) (.lZ cs)
 |lst (a:Option Addr) (c k b o:Nat) (xs:List au) (vs:List Value) (tk:Tok)
   (ha:xs≠[]→a=some ⟨b,o,none⟩) (hf:∀j v,vs[j]?=some v→g.fz b (o+j)=some v)
   (hk:∀x∈xs,x.cells.length=k) (hc:xs.length≤c) (ht:oz g a xs.length c k tk)
   (hr:aX L g vs (flat xs)):Rep L g (.slice a xs.length c) (.lst xs tk)
 |arr (id k off len c:Nat) (s:ko) (h:g.ob id 0=some s) (h0:s.s=0) (hc:len≤c):
   Rep L g (.slice (some ⟨s.b,off,none⟩) len c) (.arr id k off len)
 |map (id:Nat) (s:ko) (h:g.ob id 0=some s):Rep L g (.map (some s.b)) (.map id)
 |gW:Rep L g (.map none) .gW
 |fn (f:Fn) (af:AFn) (fi ca:List Value) (afi aca:List au) (h:LP L f af) (h1:aX L g fi afi) (h2:aX L g ca aca):
   Rep L g (.func f fi.toArray ca.toArray) (.fn af afi aca)
 |lM:Rep L g .nilFunc .lM
 |iface (t:Nat) (v:Value) (x:au) (h:Rep L g v x):Rep L g (.iface (L.ty t) v) (.iface t x)
 |eT:Rep L g .nilIface .eT
 |agg (vs:List Value) (cs:List au) (h:aX L g vs cs):Rep L g (.agg vs.toArray) (.agg cs)
 |tup (vs:List Value) (cs:List au) (h:aX L g vs cs):Rep L g (.tuple vs.toArray) (.tup cs)
 |qN (a:Option Addr) (c k b o:Nat) (xs:List au) (vs:List Value) (tk:Tok)
   (ha:xs≠[]→a=some ⟨b,o,none⟩) (hf:∀j v,vs[j]?=some v→g.fz b (o+j)=some v)
   (hk:∀x∈xs,x.cells.length=k) (hc:xs.length≤c) (ht:oz g a xs.length c k tk)
   (hr:aX L g vs (flat xs)):Rep L g (.pointer a) (.qN xs tk)
 |yld (id:Nat) (s:ko) (h:g.ob id 0=some s):Rep L g (.func (.yield s.b) #[] #[]) (.yld id)
 |vec (id ver k off len c:Nat) (s:ko) (h:g.ob id ver=some s) (hk:s.k=k) (hc:len≤c) (hz:(off+c)*k≤s.z):
   Rep L g (.slice (some ⟨s.b,off*k,none⟩) len c) (.vec id ver k off len)
 |jv (id ver off:Nat) (s:ko) (h:g.ob id ver=some s):Rep L g (.pointer (some ⟨s.b,off,none⟩)) (.jv id ver off)
inductive aX (L:Lnk) (g:aA):List Value→List au→Prop where
 |nil:aX L g [] []
 |cons (v:Value) (x:au) (vs:List Value) (xs:List au) (h:Rep L g v x) (hs:aX L g vs xs):aX L g (v::vs) (x::xs)
end
theorem oz.sF {g g':aA} (ho:∀i k s,g.ob i k=some s→g'.ob i k=some s) {a:Option Addr} {n c k:Nat} {tk:Tok} (h:oz g a n c k tk):oz g' a n c k tk:=by
 cases tk with
 |tail id=>
  obtain⟨s,h1,h2⟩:=h;exact⟨s,ho _ _ _ h1,h2⟩
 |_=>exact h
theorem Rep.sF {L:Lnk} {g g':aA} (hz:∀b o v,g.fz b o=some v→g'.fz b o=some v) (ho:∀i k s,g.ob i k=some s→g'.ob i k=some s) {v:Value} {x:au} (h:Rep L g v x):Rep L g' v x:=
 Rep.rec (motive_1:=fun v x _=>Rep L g' v x) (motive_2:=fun vs xs _=>aX L g' vs xs)
  (fun v=>.undef v) (fun b=>.bool b) (fun k n=>.int k n) (fun s=>.str s) (fun id off s h h0=>.ptr id off s (ho _ _ _ h) h0) .eD
  (fun b o vs cs hf _ hr=>.lZ b o vs cs (fun j v hj=>hz _ _ _ (hf j v hj)) hr)
  (fun a c k b o xs vs tk ha hf hk hc ht _ hr=>.lst a c k b o xs vs tk ha (fun j v hj=>hz _ _ _ (hf j v hj)) hk hc (ht.sF ho) hr)
  (fun id k off len c s h h0 hc=>.arr id k off len c s (ho _ _ _ h) h0 hc) (fun id s h=>.map id s (ho _ _ _ h)) .gW
  (fun f af fi ca afi aca h _ _ h1 h2=>.fn f af fi ca afi aca h h1 h2) .lM (fun t v x _ h=>.iface t v x h) .eT
  (fun vs cs _ h=>.agg vs cs h) (fun vs cs _ h=>.tup vs cs h)
  (fun a c k b o xs vs tk ha hf hk hc ht _ hr=>.qN a c k b o xs vs tk ha (fun j v hj=>hz _ _ _ (hf j v hj)) hk hc (ht.sF ho) hr)
  (fun id s h=>.yld id s (ho _ _ _ h)) (fun id ver k off len c s h hk hc hz=>.vec id ver k off len c s (ho _ _ _ h) hk hc hz) (fun id ver off s h=>.jv id ver off s (ho _ _ _ h))
  .nil (fun v x vs xs _ _ h hs=>.cons v x vs xs h hs) h
theorem Rep.mono {L:Lnk} {g g':aA} (hg:g.le g') {v:Value} {x:au} (h:Rep L g v x):Rep L g' v x:=h.sF hg.fz hg.ob
theorem aX.sF {L:Lnk} {g g':aA} (hz:∀b o v,g.fz b o=some v→g'.fz b o=some v) (ho:∀i k s,g.ob i k=some s→g'.ob i k=some s) {vs:List Value} {xs:List au} (h:aX L g vs xs):aX L g' vs xs:=by
 induction vs generalizing xs with
 |nil=>cases h;exact .nil
 |cons v vs ih=>cases h with|cons _ x _ xs h hs=>exact .cons _ _ _ _ (h.sF hz ho) (ih hs)
theorem aX.mono {L:Lnk} {g g':aA} (hg:g.le g') {vs:List Value} {xs:List au} (h:aX L g vs xs):aX L g' vs xs:=h.sF hg.fz hg.ob
theorem aX.length {L:Lnk} {g:aA} {vs:List Value} {xs:List au} (h:aX L g vs xs):vs.length=xs.length:=by
 induction vs generalizing xs with
 |nil=>cases h;rfl
 |cons v vs ih=>cases h with|cons _ x _ xs h hs=>simp[ih hs]
theorem aX.at {L:Lnk} {g:aA} {vs:List Value} {xs:List au} (h:aX L g vs xs) (i:Nat) (x:au) (hx:xs[i]?=some x):∃v,vs[i]?=some v∧Rep L g v x:=by
 induction vs generalizing xs i with
 |nil=>cases h;simp at hx
 |cons v vs ih=>
  cases h with
  |cons _ y _ ys h hs=>
   cases i with
   |zero=>simp at hx;subst hx;exact⟨v,rfl,h⟩
   |succ i=>simp at hx;simpa using ih hs i hx
theorem aX.append {L:Lnk} {g:aA} {vs vs':List Value} {xs xs':List au} (h:aX L g vs xs) (h':aX L g vs' xs'):aX L g (vs ++vs') (xs ++xs'):=by
 induction vs generalizing xs with
 |nil=>cases h;exact h'
 |cons v vs ih=>cases h with|cons _ x _ xs h hs=>exact .cons _ _ _ _ h (ih hs)
theorem aX.take {L:Lnk} {g:aA} {vs:List Value} {xs:List au} (h:aX L g vs xs) (n:Nat):aX L g (vs.take n) (xs.take n):=by
 induction vs generalizing xs n with
 |nil=>cases h;simp;exact .nil
 |cons v vs ih=>
  cases h with
  |cons _ x _ xs h hs=>cases n with
   |zero=>simp;exact .nil
   |succ n=>simp;exact .cons _ _ _ _ h (ih hs n)
theorem aX.drop {L:Lnk} {g:aA} {vs:List Value} {xs:List au} (h:aX L g vs xs) (n:Nat):aX L g (vs.drop n) (xs.drop n):=by
 induction vs generalizing xs n with
 |nil=>cases h;simp;exact .nil
 |cons v vs ih=>
  cases h with
  |cons _ x _ xs h hs=>cases n with
   |zero=>simp;exact .cons _ _ _ _ h hs
   |succ n=>simp;exact ih hs n
theorem Rep.cells {L:Lnk} {g:aA} {v:Value} {x:au} (h:Rep L g v x) (hu:x≠.undef):aX L g v.cells.toList x.cells:=by
 cases h with
 |undef=>exact absurd rfl hu
 |agg vs cs h=>simpa[Value.cells,au.cells]using h
 |_=>simp only[Value.cells,au.cells];exact .cons _ _ _ _ (by constructor<;>assumption) .nil
def aU.ver :aU→Nat
 |.tail n _=>n
 |.arr v _ _=>v
 |_=>0
def aU.alive :aU→Bool
 |.dead|.gone=>false
 |_=>true
def kN (L:Lnk) (g:aA) (w:World) (id:Nat):aU→Prop
 |.dead=>∀v,g.ob id v=none
 |.gone=>True
 |.cells cs t=>∃s vs,g.ob id 0=some s∧s.s=0∧w.heap[s.b]?=some (.cells vs (L.ty t) (0,0))∧aX L g vs.toList cs∧(∀o,g.fz s.b o=none)∧g.own s.b
 |.tail n t=>∃s vs,g.ob id n=some s∧s.s=0∧(∀m,n<m→g.ob id m=none)∧w.heap[s.b]?=some (.cells vs (L.ty t) (0,0))∧vs.size=s.z∧
   (∀o,s.s+n*s.k≤o→g.fz s.b o=none)∧g.own s.b
 |.arr v xs t=>∃s vs,g.ob id v=some s∧s.s=0∧(∀m,v<m→g.ob id m=none)∧0<s.k∧w.heap[s.b]?=some (.cells vs (L.ty t) (0,0))∧vs.size=s.z∧(∀x∈xs,x.cells.length=s.k)∧
   xs.length*s.k≤s.z∧aX L g (vs.toList.take (xs.length*s.k)) (flat xs)∧(∀o,g.fz s.b o=none)∧g.own s.b
 |.map es clock=>∃s ents,g.ob id 0=some s∧w.heap[s.b]?=some (.map ents clock)∧aX L g (ents.toList.map (·.key)) (es.map (·.1))∧aX L g (ents.toList.map (·.val)) (es.map (·.2.1))∧
   ents.toList.map (·.born)=es.map (·.2.2)∧g.own s.b∧(∀e∈es,e.2.2<clock)∧(es.map (·.2.2)).Nodup
 |.iJ m since seen last=>∃s,g.ob id 0=some s∧g.own s.b∧match m with
   |none=>w.heap[s.b]?=some (.mapIter none since seen.toArray last)
   |some mid=>∃sm,g.ob mid 0=some sm∧w.heap[s.b]?=some (.mapIter (some sm.b) since seen.toArray last)
 |.loop r st=>∃s,g.ob id 0=some s∧w.heap[s.b]?=some (.loop (r.loop st))∧(∀i,Rep L g (r.tmps.getD i undef) (r.e i))∧g.own s.b
structure St (L:Lnk) (g:aA) (w:World) (H:Heap):Prop where
 fz:∀b o v,g.fz b o=some v→w.cell? ⟨b,o,none⟩=some v
 obj:∀id obj,H[id]?=some obj→kN L g w id obj
 new:∀id v,H.length≤id→g.ob id v=none
 bnd:∀id v s,g.ob id v=some s→s.b<w.heap.size
 inj:∀i j o o' s s',H[i]?=some o→H[j]?=some o'→o.alive=true→o'.alive=true→g.ob i o.ver=some s→g.ob j o'.ver=some s'→s.b=s'.b→i=j
 below:Below g.base g.w0 w
 bs:g.base≤g.w0.heap.size
 fact:L.start g.w0 g.base
 kp:∀b o,g.kp b=some o→w.heap[b]?=some o
 dk:∀b,g.dk b=true→w.heap[b]?=some (.deferred (some []))
def Jb (L:Lnk) (g:aA) (en:Ending):fE→Prop
 |.ret x=>∃v,en=.returned v∧Rep L g v x
 |.pan x=>∃v,en=.panicked [⟨v,false,false⟩]∧Rep L g v x
def aC (L:Lnk) (f:Nat) (args:List au) (H:Heap) (Q:fE→Heap→Prop):Prop:=
 ∀g w vs,St L g w H→aX L g vs args→
  Calls L.P (L.num f) vs.toArray w fun e w'=>∃r H' g',Q r H'∧g.le g'∧St L g' w' H'∧Jb L g' e r
def iZ (L:Lnk) (id:Nat) (args:List au) (H:Heap) (Q:fE→Heap→Prop):Prop:=
 ∀g w vs s,St L g w H→aX L g vs args→g.ob id 0=some s→
  ∃f tmps assign body,(Instr.yield s.b vs.toArray).run L.P w=.ok (.round s.b f tmps assign body) w∧
   RoundIn Fence.wide 0 L.P s.b f tmps assign body w fun e w'=>∃r H' g',Q r H'∧g.le g'∧St L g' w' H'∧Jb L g' e r
theorem iZ.mono {L:Lnk} {id:Nat} {args:List au} {H:Heap} {Q Q':fE→Heap→Prop} (h:iZ L id args H Q) (hq:∀r H',Q r H'→Q' r H'):iZ L id args H Q':=
 fun g w vs s hs hr ho=>let⟨f,tmps,asg,body,h1,h2⟩:=h g w vs s hs hr ho
  ⟨f,tmps,asg,body,h1,h2.mono fun _ _ ⟨r,H',g',q,rest⟩=>⟨r,H',g',hq _ _ q,rest⟩⟩
theorem aC.mono {L:Lnk} {f:Nat} {args:List au} {H:Heap} {Q Q':fE→Heap→Prop} (h:aC L f args H Q) (hq:∀r H',Q r H'→Q' r H'):aC L f args H Q':=
 fun g w vs hs hr=>(h g w vs hs hr).mono fun _ _ ⟨r,H',g',q,rest⟩=>⟨r,H',g',hq _ _ q,rest⟩
end Go.Ag
/- What a call has made and nobody can see any more is forgotten. -/
namespace Go.Ag
open Go
open Go.RowKit (Below)
variable {L : Lnk}
def nC (n:Nat):Tok→Prop
 |.tail id=>id<n
 |_=>True
inductive Low (n:Nat):au→Prop where
 |undef:Low n .undef
 |bool (b:Bool):Low n (.bool b)
 |int (k:IntKind) (m:Int):Low n (.int k m)
 |str (s:List UInt8):Low n (.str s)
 |ptr (id off:Nat) (h:id<n):Low n (.ptr id off)
 |eD:Low n .eD
 |lZ (cs:List au) (h:∀x∈cs,Low n x):Low n (.lZ cs)
 |lst (xs:List au) (tk:Tok) (ht:nC n tk) (h:∀x∈xs,Low n x):Low n (.lst xs tk)
 |arr (id ver off len:Nat) (h:id<n):Low n (.arr id ver off len)
 |map (id:Nat) (h:id<n):Low n (.map id)
 |gW:Low n .gW
 |fn (f:AFn) (fi ca:List au) (h1:∀x∈fi,Low n x) (h2:∀x∈ca,Low n x):Low n (.fn f fi ca)
 |lM:Low n .lM
 |iface (t:Nat) (x:au) (h:Low n x):Low n (.iface t x)
 |eT:Low n .eT
 |agg (cs:List au) (h:∀x∈cs,Low n x):Low n (.agg cs)
 |tup (cs:List au) (h:∀x∈cs,Low n x):Low n (.tup cs)
 |qN (xs:List au) (tk:Tok) (ht:nC n tk) (h:∀x∈xs,Low n x):Low n (.qN xs tk)
 |yld (id:Nat) (h:id<n):Low n (.yld id)
 |vec (id ver k off len:Nat) (h:id<n):Low n (.vec id ver k off len)
 |jv (id ver off:Nat) (h:id<n):Low n (.jv id ver off)
theorem Low.cells {n:Nat} {x:au} (h:Low n x):∀y∈x.cells,Low n y:=by
 cases h with
 |agg cs h=>exact h
 |_=>simp only[au.cells,List.mem_singleton];rintro y rfl;first|constructor<;>assumption|constructor
theorem Dv {n:Nat} {xs:List au} (h:∀x∈xs,Low n x):∀y∈flat xs,Low n y:=by
 intro y hy;simp only[flat,List.mem_flatMap]at hy;obtain⟨x,hx,hy⟩:=hy;exact(h x hx).cells y hy
theorem Low.mono {n m:Nat} (hnm:n≤m) {x:au} (h:Low n x):Low m x:=by
 induction h with
 |undef=>exact .undef
 |bool=>exact .bool _
 |int=>exact .int _ _
 |str=>exact .str _
 |ptr _ _ h=>exact .ptr _ _ (by omega)
 |eD=>exact .eD
 |lZ _ _ ih=>exact .lZ _ ih
 |lst _ tk ht _ ih=>exact .lst _ _ (by cases tk<;>first|trivial|(simp only[nC]at ht⊢;omega)) ih
 |arr _ _ _ _ h=>exact .arr _ _ _ _ (by omega)
 |map _ h=>exact .map _ (by omega)
 |gW=>exact .gW
 |fn _ _ _ _ _ i1 i2=>exact .fn _ _ _ i1 i2
 |lM=>exact .lM
 |iface _ _ _ ih=>exact .iface _ _ ih
 |eT=>exact .eT
 |agg _ _ ih=>exact .agg _ ih
 |tup _ _ ih=>exact .tup _ ih
 |qN _ tk ht _ ih=>exact .qN _ _ (by cases tk<;>first|trivial|(simp only[nC]at ht⊢;omega)) ih
 |yld _ h=>exact .yld _ (by omega)
 |vec _ _ _ _ _ h=>exact .vec _ _ _ _ _ (by omega)
 |jv _ _ _ h=>exact .jv _ _ _ (by omega)
def aA.cut (g:aA) (n:Nat):aA:={g with ob:=fun i v=>if i<n then g.ob i v else none}
theorem aA.oL (g:aA) {n i:Nat} (h:i<n) (v:Nat):(g.cut n).ob i v=g.ob i v:=by simp[aA.cut,h]
theorem oz.cut {g:aA} {n:Nat} {a:Option Addr} {m c k:Nat} {tk:Tok} (h:oz g a m c k tk) (ht:nC n tk):oz (g.cut n) a m c k tk:=by
 cases tk with
 |tail id=>
  obtain⟨s,h1,h2⟩:=h;exact⟨s,by rw[aA.oL g ht];exact h1,h2⟩
 |_=>exact h
theorem Rep.cut {g:aA} {n:Nat} {v:Value} {x:au} (h:Rep L g v x):Low n x→Rep L (g.cut n) v x:=
 Rep.rec (motive_1:=fun v x _=>Low n x→Rep L (g.cut n) v x) (motive_2:=fun vs xs _=>(∀x∈xs,Low n x)→aX L (g.cut n) vs xs)
  (fun v _=>.undef v) (fun b _=>.bool b) (fun k m _=>.int k m) (fun s _=>.str s)
  (fun id off s h h0 hl=>by cases hl with|ptr _ _ hl=>exact .ptr id off s (by rw[aA.oL g hl];exact h) h0) (fun _=>.eD)
  (fun b o vs cs hf _ ih hl=>by cases hl with|lZ _ hl=>exact .lZ b o vs cs hf (ih hl))
  (fun a c k b o xs vs tk ha hf hk hc ht _ ih hl=>by cases hl with|lst _ _ h1 h2=>exact .lst a c k b o xs vs tk ha hf hk hc (ht.cut h1) (ih (Dv h2)))
  (fun id ver off len c s h h0 hc hl=>by cases hl with|arr _ _ _ _ hl=>exact .arr id ver off len c s (by rw[aA.oL g hl];exact h) h0 hc)
  (fun id s h hl=>by cases hl with|map _ hl=>exact .map id s (by rw[aA.oL g hl];exact h)) (fun _=>.gW)
  (fun f af fi ca afi aca h _ _ h1 h2 hl=>by cases hl with|fn _ _ _ l1 l2=>exact .fn f af fi ca afi aca h (h1 l1) (h2 l2)) (fun _=>.lM)
  (fun t v x _ ih hl=>by cases hl with|iface _ _ hl=>exact .iface t v x (ih hl)) (fun _=>.eT)
  (fun vs cs _ ih hl=>by cases hl with|agg _ hl=>exact .agg vs cs (ih hl)) (fun vs cs _ ih hl=>by cases hl with|tup _ hl=>exact .tup vs cs (ih hl))
  (fun a c k b o xs vs tk ha hf hk hc ht _ ih hl=>by cases hl with|qN _ _ h1 h2=>exact .qN a c k b o xs vs tk ha hf hk hc (ht.cut h1) (ih (Dv h2)))
  (fun id s h hl=>by cases hl with|yld _ hl=>exact .yld id s (by rw[aA.oL g hl];exact h))
  (fun id ver k off len c s h hk hc hz hl=>by cases hl with|vec _ _ _ _ _ hl=>exact .vec id ver k off len c s (by rw[aA.oL g hl];exact h) hk hc hz)
  (fun id ver off s h hl=>by cases hl with|jv _ _ _ hl=>exact .jv id ver off s (by rw[aA.oL g hl];exact h))
  (fun _=>.nil) (fun v x vs xs _ _ ih ihs hl=>.cons v x vs xs (ih (hl x (by simp))) (ihs fun y hy=>hl y (by simp[hy]))) h
theorem aX.cut {g:aA} {n:Nat} {vs:List Value} {xs:List au} (h:aX L g vs xs) (hl:∀x∈xs,Low n x):aX L (g.cut n) vs xs:=by
 induction vs generalizing xs with
 |nil=>cases h;exact .nil
 |cons v vs ih=>cases h with|cons _ x _ xs h hs=>exact .cons _ _ _ _ (h.cut (hl x (by simp))) (ih hs fun y hy=>hl y (by simp[hy]))
def bI (n:Nat):aU→Prop
 |.cells cs _=>∀x∈cs,Low n x
 |.arr _ xs _=>∀x∈xs,Low n x
 |.map es _=>∀e∈es,Low n e.1∧Low n e.2.1
 |.iJ (some m) _ _ _=>m<n
 |.loop r _=>∀i,Low n (r.e i)
 |_=>True
theorem St.cut {g:aA} {w:World} {H J:Heap} (h:St L g w (H ++J)) (hl:∀o∈H,bI H.length o):St L (g.cut H.length) w H:=by
 have hget:∀(i:Nat) (o:aU),H[i]?=some o→i<H.length∧(H ++J)[i]?=some o:=fun i o hi=>by
  have hlt:i<H.length:=by
   rcases Nat.lt_or_ge i H.length with h'|h'
   ·exact h'
   ·rw[List.getElem?_eq_none h']at hi;cases hi
  exact⟨hlt,by rw[List.getElem?_append_left hlt];exact hi⟩
 refine⟨h.fz,fun i o ho=>?_,fun i v hi=>by simp[aA.cut];omega,fun i v s hs=>?_,fun i j o o' s s' hi hj ha ha' h1 h2 hb=>?_,h.below,h.bs,h.fact,h.kp,h.dk⟩
 ·obtain⟨hlt,ho'⟩:=hget i o ho
  have hob:∀v,(g.cut H.length).ob i v=g.ob i v:=fun v=>aA.oL g hlt v
  have hlo:=hl o (List.mem_of_getElem? ho);have hok:=h.obj i o ho'
  cases o with
  |dead=>exact fun v=>(hob v).trans (hok v)
  |gone=>trivial
  |cells cs t=>
   obtain⟨s,vs,h1,h2,h3,h4,h5,h6⟩:=hok;exact⟨s,vs,(hob 0).trans h1,h2,h3,h4.cut hlo,h5,h6⟩
  |tail n t=>
   obtain⟨s,vs,h1,h0,h2,h3⟩:=hok;exact⟨s,vs,(hob n).trans h1,h0,fun m hm=>(hob m).trans (h2 m hm),h3⟩
  |arr v xs t=>
   obtain⟨s,vs,h1,h0,h2,h3,h4,h5,h6,h7,h8,h9⟩:=hok;exact⟨s,vs,(hob v).trans h1,h0,fun m hm=>(hob m).trans (h2 m hm),h3,h4,h5,h6,h7,h8.cut (Dv hlo),h9⟩
  |map es clock=>
   obtain⟨s,ents,h1,h2,h3,h4,h5⟩:=hok
   exact⟨s,ents,(hob 0).trans h1,h2,h3.cut (fun x hx=>by
    obtain⟨e,he,rfl⟩:=List.mem_map.1 hx
    exact(hlo e he).1),h4.cut (fun x hx=>by
    obtain⟨e,he,rfl⟩:=List.mem_map.1 hx
    exact(hlo e he).2),h5⟩
  |iJ m since seen last=>
   obtain⟨s,h1,h2,h3⟩:=hok
   cases m with
   |none=>exact⟨s,(hob 0).trans h1,h2,h3⟩
   |some mid=>
    obtain⟨sm,h3,h4⟩:=h3;exact⟨s,(hob 0).trans h1,h2,sm,by rw[aA.oL g hlo];exact h3,h4⟩
  |loop r st=>
   obtain⟨s,h1,h2,h3,h4⟩:=hok;exact⟨s,(hob 0).trans h1,h2,fun i=>(h3 i).cut (hlo i),h4⟩
 ·simp only[aA.cut]at hs
  split at hs
  ·exact h.bnd i v s hs
  ·cases hs
 ·obtain⟨l1,hi'⟩:=hget i o hi
  obtain⟨l2,hj'⟩:=hget j o' hj;rw[aA.oL g l1]at h1;rw[aA.oL g l2]at h2;exact h.inj i j o o' s s' hi' hj' ha ha' h1 h2 hb
theorem aA.Af {g g':aA} {n:Nat} (h:g.le g') (hn:∀i v,n≤i→g.ob i v=none):g.le (g'.cut n):=
 ⟨h.w0,h.base,h.fz,fun i v s hs=>by
  rw[aA.oL g' (by
   rcases Nat.lt_or_ge i n with h'|h'
   ·exact h'
   ·rw[hn i v h']at hs;cases hs)]
  exact h.ob i v s hs,h.kp,h.fzk,h.dk⟩
theorem Rep.low {g : aA} {n : Nat} (hn : ∀ i v s, g.ob i v = some s → i < n) {v : Value} {x : au} (h : Rep L g v x) : Low n x := by
 have tk : ∀ {a m c k t}, oz g a m c k t → nC n t := fun {a m c k t} ht => by
  cases t with
  | tail id => obtain ⟨s, h1, _⟩ := ht; exact hn _ _ _ h1
  | _ => trivial
 have fl : ∀ xs : List au, (∀ y ∈ flat xs, Low n y) → ∀ x ∈ xs, Low n x := fun xs hy x hx => by
  have hc : ∀ y ∈ x.cells, Low n y := fun y hyc => hy y (by simp only [flat, List.mem_flatMap]; exact ⟨x, hx, hyc⟩)
  cases x <;> first | exact .agg _ hc | exact hc _ (by simp [au.cells])
 exact Rep.rec (motive_1 := fun v x _ => Low n x) (motive_2 := fun vs xs _ => ∀ x ∈ xs, Low n x)
  (fun v => .undef) (fun b => .bool b) (fun k m => .int k m) (fun s => .str s)
  (fun id off s h h0 => .ptr _ _ (hn _ _ _ h)) .eD
  (fun b o vs cs hf _ ih => .lZ _ ih)
  (fun a c k b o xs vs t ha hf hk hc ht _ ih => .lst _ _ (tk ht) (fl _ ih))
  (fun id ver off len c s h h0 hc => .arr _ _ _ _ (hn _ _ _ h))
  (fun id s h => .map _ (hn _ _ _ h)) .gW
  (fun f af fi ca afi aca h _ _ h1 h2 => .fn _ _ _ h1 h2) .lM
  (fun t v x _ ih => .iface _ _ ih) .eT
  (fun vs cs _ ih => .agg _ ih) (fun vs cs _ ih => .tup _ ih)
  (fun a c k b o xs vs t ha hf hk hc ht _ ih => .qN _ _ (tk ht) (fl _ ih))
  (fun id s h => .yld _ (hn _ _ _ h)) (fun id ver k off len c s h hk hc hz => .vec _ _ _ _ _ (hn _ _ _ h)) (fun id ver off s h => .jv _ _ _ (hn _ _ _ h))
  (fun x hx => by cases hx) (fun v x vs xs _ _ ih ihs y hy => by
   rcases List.mem_cons.1 hy with rfl | hy
   ·exact ih
   ·exact ihs y hy) h
theorem aX.low {g:aA} {n:Nat} (hn:∀i v s,g.ob i v=some s→i<n) {vs:List Value} {xs:List au} (h:aX L g vs xs):∀x∈xs,Low n x:=by
 induction vs generalizing xs with
 |nil=>cases h;intro x hx;cases hx
 |cons v vs ih=>
  cases h with
  |cons _ x _ xs h hs=>
   intro y hy;rcases List.mem_cons.1 hy with rfl|hy
   ·exact h.low hn
   ·exact ih hs y hy
theorem St.dom {g:aA} {w:World} {H:Heap} (h:St L g w H):∀i v s,g.ob i v=some s→i<H.length:=fun i v s hs=>by
 rcases Nat.lt_or_ge i H.length with h'|h'
 ·exact h'
 ·rw[h.new i v h']at hs;cases hs
theorem St.lowO {g:aA} {w:World} {H:Heap} (h:St L g w H):∀o∈H,bI H.length o:=fun o ho=>by
 obtain⟨i,hi,rfl⟩:=List.mem_iff_getElem.1 ho;have hok:=h.obj i H[i] (List.getElem?_eq_getElem hi);generalize H[i]=o at hok
 cases o with
 |cells cs t=>obtain⟨s,vs,_,_,_,h4,_⟩:=hok;exact h4.low h.dom
 |arr v xs t=>
  obtain⟨s,vs,_,_,_,_,_,_,_,_,h8,_⟩:=hok;intro x hx;have hc:∀y∈x.cells,Low H.length y:=fun y hy=>h8.low h.dom y (by simp only[flat,List.mem_flatMap];exact⟨x,hx,hy⟩)
  cases x<;>first|exact .agg _ hc|exact hc _ (by simp[au.cells])
 |map es clock=>
  obtain⟨s,ents,_,_,h3,h4,_⟩:=hok;intro e he;exact⟨h3.low h.dom _ (List.mem_map.2 ⟨e,he,rfl⟩),h4.low h.dom _ (List.mem_map.2 ⟨e,he,rfl⟩)⟩
 |iJ m since seen last=>
  obtain⟨s,_,_,h3⟩:=hok
  cases m with
  |none=>trivial
  |some mid=>obtain⟨sm,h3,_⟩:=h3;exact h.dom _ _ _ h3
 |loop r st=>obtain⟨s,_,_,h3,_⟩:=hok;exact fun i=>(h3 i).low h.dom
 |_=>trivial
def Weak (L:Lnk) (x y:au):Prop:=∀g v,Rep L g v x→Rep L g v y
theorem Weak.refl (x:au):Weak L x x:=fun _ _ h=>h
theorem Weak.tok (xs:List au) (tk:Tok):Weak L (.lst xs tk) (.lst xs .none):=fun g v h=>by
 cases h with
 |lst a c k b o _ vs _ ha hf hk hc ht hr=>exact .lst a c k b o xs vs .none ha hf hk hc trivial hr
def ni (L:Lnk):List au→List au→Prop
 |[],[]=>True
 |x::xs,y::ys=>Weak L x y∧ni L xs ys
 |_,_=>False
theorem ni.refl :∀xs:List au,ni L xs xs
 |[]=>trivial
 |x::xs=>⟨Weak.refl x,ni.refl xs⟩
theorem aX.weak {g:aA} {vs:List Value} {xs ys:List au} (h:aX L g vs xs) (hw:ni L xs ys):aX L g vs ys:=by
 induction xs generalizing vs ys with
 |nil=>cases ys with
  |nil=>exact h
  |cons=>exact False.elim hw
 |cons x xs ih=>cases ys with
  |nil=>exact False.elim hw
  |cons y ys=>cases h with|cons _ _ _ _ h hs=>exact .cons _ _ _ _ (hw.1 _ _ h) (ih hs hw.2)
theorem Weak.agg {xs ys:List au} (h:ni L xs ys):Weak L (.agg xs) (.agg ys):=fun g v hv=>by
 cases hv with|agg vs _ hr=>exact .agg vs _ (hr.weak h)
theorem Weak.tup {xs ys:List au} (h:ni L xs ys):Weak L (.tup xs) (.tup ys):=fun g v hv=>by
 cases hv with|tup vs _ hr=>exact .tup vs _ (hr.weak h)
def bJ (L:Lnk):aU→aU→Prop
 |.cells cs t,.cells cs' t'=>t=t'∧ni L cs cs'
 |.map es c,.map es' c'=>c=c'∧es.map (·.2.2)=es'.map (·.2.2)∧ni L (es.map (·.1)) (es'.map (·.1))∧ni L (es.map (·.2.1)) (es'.map (·.2.1))
 |o,.gone=>True
 |o,o'=>o=o'
theorem bJ.refl (o:aU):bJ L o o:=by
 cases o<;>simp only[bJ]
 ·exact⟨trivial,ni.refl _⟩
 ·exact⟨trivial,trivial,ni.refl _,ni.refl _⟩
theorem bJ.alive {o o':aU} (h:bJ L o o'):o'.alive=true→o.alive=true∧o.ver=o'.ver:=by
 intro ha;cases o<;>cases o'<;>simp only[bJ,reduceCtorEq]at h<;>first|(cases ha;done)|exact⟨rfl,rfl⟩|(cases h;exact⟨ha,rfl⟩)
theorem St.weak {g:aA} {w:World} {H H':Heap} (h:St L g w H) (hl:H'.length=H.length) (hw:∀(i:Nat) (o o':aU),H[i]?=some o→H'[i]?=some o'→bJ L o o'):St L g w H':=by
 have get:∀(i:Nat) (o':aU),H'[i]?=some o'→∃o,H[i]?=some o∧bJ L o o':=fun i o' ho=>by
  have hlt:i<H.length:=by
   rw[←hl];rcases Nat.lt_or_ge i H'.length with h'|h'
   ·exact h'
   ·rw[List.getElem?_eq_none h']at ho;cases ho
  exact⟨H[i],List.getElem?_eq_getElem hlt,hw i _ o' (List.getElem?_eq_getElem hlt) ho⟩
 refine⟨h.fz,fun i o' ho=>?_,fun i v hi=>h.new i v (by rw[←hl];exact hi),h.bnd,fun i j o1 o2 s s' hi hj ha ha' e1 e2 hb=>?_,h.below,h.bs,h.fact,h.kp,h.dk⟩
 ·obtain⟨o,h1,h2⟩:=get i o' ho
  have hok:=h.obj i o h1;cases o<;>cases o'<;>simp only[bJ,reduceCtorEq]at h2
  all_goals first
   |exact trivial
   |exact hok
   |skip
  case cells.cells cs t cs' t'=>
   obtain⟨rfl,h2⟩:=h2;obtain⟨s,vs,k1,k2,k3,k4,k5⟩:=hok;exact⟨s,vs,k1,k2,k3,k4.weak h2,k5⟩
  case tail.tail=>cases h2;exact hok
  case arr.arr=>cases h2;exact hok
  case map.map es c es' c'=>
   obtain⟨rfl,h3,h4,h5⟩:=h2;obtain⟨s,ents,k1,k2,k3,k4,k5,k6,k7,k8⟩:=hok;refine⟨s,ents,k1,k2,k3.weak h4,k4.weak h5,k5.trans h3,k6,fun e he=>?_,h3▸k8⟩;have:e.2.2∈es.map (·.2.2):=by rw[h3];exact List.mem_map.2 ⟨e,he,rfl⟩
   obtain⟨e',he',hee⟩:=List.mem_map.1 this;rw[←hee];exact k7 e' he'
  case iJ.iJ=>cases h2;exact hok
  case loop.loop=>cases h2;exact hok
 ·obtain⟨p,hp,wp⟩:=get i o1 hi
  obtain⟨q,hq,wq⟩:=get j o2 hj;obtain⟨a1,a2⟩:=wp.alive ha;obtain⟨b1,b2⟩:=wq.alive ha';exact h.inj i j p q s s' hp hq a1 b1 (by rw[a2];exact e1) (by rw[b2];exact e2) hb
def GC (L:Lnk) (n0:Nat) (I:Env→Heap→Prop):Prop:=∀(e e':Env) (H K J:Heap),(∀i,Weak L (e' i) (e i)∧Low H.length (e i))→K.length=H.length→
 (∀(i:Nat) (o o':aU),K[i]?=some o→H[i]?=some o'→bJ L o o')→(∀o∈H,bI H.length o)→n0≤H.length→I e H→I e' (K ++J)
theorem St.forget {g:aA} {w:World} {H K J:Heap} (h:St L g w (K ++J)) (hl:K.length=H.length) (hw:∀(i:Nat) (o o':aU),K[i]?=some o→H[i]?=some o'→bJ L o o') (hlo:∀o∈H,bI H.length o):St L (g.cut H.length) w H:=by
 have h2:St L g w (H ++J):=h.weak (by simp[hl]) fun i o o' ho ho'=>by
  rcases Nat.lt_or_ge i K.length with hi|hi
  ·rw[List.getElem?_append_left hi]at ho
   rw[List.getElem?_append_left (by omega)]at ho';exact hw i o o' ho ho'
  ·rw[List.getElem?_append_right hi]at ho
   rw[List.getElem?_append_right (by omega),←hl,ho]at ho';cases ho';exact bJ.refl o
 exact h2.cut hlo
theorem aC.gc {f : Nat} {args : List au} {H : Heap} {Q : au → Prop} (h : aC L f args H fun r H' => ∃ J x y, H' = H ++ J ∧ r = .ret x ∧ Weak L x y ∧ Low H.length y ∧ Q y) :
  aC L f args H fun r H' => ∃ y, r = .ret y ∧ H' = H ∧ Q y := fun g w vs hs hr =>
 (h g w vs hs hr).mono fun e w' ⟨r, H', g', ⟨J, x, y, h1, h2, h3, h4, h5⟩, hle, hst, hrep⟩ => by
  subst h1 h2
  obtain ⟨v, rfl, hrep⟩ := hrep
  exact ⟨.ret y, H, g'.cut H.length, ⟨y, rfl, rfl, h5⟩, aA.Af hle fun i v hi => hs.new i v hi, hst.cut hs.lowO, v, rfl, (h3 _ _ hrep).cut h4⟩
theorem aC.pure {f:Nat} {args:List au} {H:Heap} {y:au} (h:aC L f args H fun r H'=>∃J x,H'=H ++J∧r=.ret x∧Weak L x y) (hy:Low H.length y):
  aC L f args H fun r H'=>r=.ret y∧H'=H:=
 (aC.gc (Q:=fun z=>z=y) (h.mono fun r H' ⟨J,x,h1,h2,h3⟩=>⟨J,x,y,h1,h2,h3,hy,rfl⟩)).mono fun r H' ⟨z,h1,h2,h3⟩=>⟨h3▸h1,h2⟩
end Go.Ag
/- The condition that a run of abstract code meets a post: by recursion over the code. -/
namespace Go.Ag
open Go
def jH (k:Nat) (x:au):Prop:=x.cells.length=k∧x.cells.all uJ=true
def dB (k:Nat) (xs:List au):Prop:=∀x∈xs,jH k x
def isNil :Nat→au→Option Bool
 |0,.eT=>some true
 |0,.iface _ _=>some false
 |1,.lM=>some true
 |1,.fn _ _ _|1,.yld _=>some false
 |2,.eD=>some true
 |2,.ptr _ _|2,.lZ _|2,.jv _ _ _=>some false
 |3,.lst _ .nil=>some true
 |3,.lst (_::_) _|3,.arr _ _ _ _|3,.vec _ _ _ _ _=>some false
 |4,.gW=>some true
 |4,.map _=>some false
 |_,_=>none
def bT :List Nat→List au→List au→Option Bool
 |[],[],[]=>some true
 |0::ks,.int k a::xs,.int k' b::ys=>if k=k' then(bT ks xs ys).map (a==b&& ·)else none
 |1::ks,.str a::xs,.str b::ys=>(bT ks xs ys).map (a==b&& ·)
 |2::ks,.bool a::xs,.bool b::ys=>(bT ks xs ys).map (a==b&& ·)
 |_,_,_=>none
def je (s:List UInt8):List au:=s.map fun b=>.int .u8 b.toNat
def jT :List au→Option (List UInt8)
 |[]=>some []
 |.int .u8 n::xs=>if 0≤n∧n<256 then(jT xs).map (UInt8.ofNat n.toNat:: ·)else none
 |_=>none
theorem wO :∀(xs:List au) (s:List UInt8),jT xs=some s→xs=je s
 |[],s,h=>by cases h;rfl
 |x::xs,s,h=>by
  cases x<;>try(simp[jT]at h;done)
  rename_i kk n;cases kk<;>try(simp[jT]at h;done)
  simp only[jT]at h;split at h
  ·rename_i hn
   cases h1:jT xs with
   |none=>rw[h1]at h;cases h
   |some s'=>
    rw[h1]at h;cases h;have ih:=wO xs s' h1
    have e1:((UInt8.ofNat n.toNat).toNat:Int)=n:=by
     rw[UInt8.toNat_ofNat'];omega
    simp only[je,List.map_cons,e1];rw[ih];rfl
  ·cases h
def eB (K KP:au→Heap→Prop):fE→Heap→Prop
 |.ret x,H=>K x H
 |.pan v,H=>KP v H
@[irreducible] def lH (k bytes t : Nat) (s x : au) (H : Heap) (K : au → Heap → Prop) : Prop :=
 match s, x with
  | .vec id ver k' off len, .lst ys _ => dB k ys ∧ (off = 0 ∧ k' = k ∧ ys ≠ []) ∧ (len + ys.length) * bytes ≤ 2 ^ 46 ∧ len + ys.length ≤ 2 ^ 46 ∧
   match H[id]? with
    | some (.arr v xs t') => (v = ver ∧ len ≤ xs.length ∧ t' = t ∧ dB k xs) ∧ ∃ nv, ver < nv ∧ K (.vec id nv k 0 (len + ys.length)) (H.set id (.arr nv (xs.take len ++ ys) t))
    | _ => False
  | .lst xs tk, .lst ys _ => dB k xs ∧ dB k ys ∧ (xs.length + ys.length) * bytes ≤ 2 ^ 46 ∧ xs.length + ys.length ≤ 2 ^ 46 ∧
   (if ys = [] then K (.lst xs tk) H else match tk with
    | .nil | .full => K (.lst (xs ++ ys) (.tail H.length)) (H ++ [.tail (xs ++ ys).length t]) ∨ (∃ id, H[id]? = some .dead ∧ K (.lst (xs ++ ys) (.tail id)) (H.set id (.tail (xs ++ ys).length t))) ∨
      (∃ id, H[id]? = some .dead ∧ K (.vec id (xs ++ ys).length k 0 (xs ++ ys).length) (H.set id (.arr (xs ++ ys).length (xs ++ ys) t))) ∨
      K (.vec H.length (xs ++ ys).length k 0 (xs ++ ys).length) (H ++ [.arr (xs ++ ys).length (xs ++ ys) t])
    | .tail id => match H[id]? with
     | some (.tail m t') => (m = xs.length ∧ t' = t) ∧ K (.lst (xs ++ ys) (.tail id)) (H.set id (.tail (xs ++ ys).length t))
     | _ => False
    | .none => False)
  | _, _ => False
@[irreducible] def Gy (bytes t : Nat) (s x : au) (H : Heap) (K : au → Heap → Prop) : Prop :=
 match s, x with
  | .lst xs tk, .str y => dB 1 xs ∧ (xs.length + y.length) * bytes ≤ 2 ^ 46 ∧ xs.length + y.length ≤ 2 ^ 46 ∧
   (if y = [] then K (.lst xs tk) H else match tk with
    | .nil | .full => K (.lst (xs ++ je y) (.tail H.length)) (H ++ [.tail (xs.length + y.length) t])
    | .tail id => match H[id]? with
     | some (.tail m t') => (m = xs.length ∧ t' = t) ∧ K (.lst (xs ++ je y) (.tail id)) (H.set id (.tail (xs.length + y.length) t))
     | _ => False
    | .none => False)
  | _, _ => False
def DJ (kk:Nat) (a b:au):Option Bool:=
 match kk,a,b with
 |0,.int k a,.int k' b=>if k=k' then some (a==b)else none
 |1,.str a,.str b=>some (a==b)
 |2,.bool a,.bool b=>some (a==b)
 |_,_,_=>none
def qy (kk:Nat) (k:au):List (au×au×Nat)→Nat→Option (Option (Nat×au))
 |[],_=>some none
 |e::es,i=>match DJ kk k e.1 with
  |some true=>some (some (i,e.2.1))
  |some false=>qy kk k es (i+1)
  |none=>none
def lG (H:Heap):au→Option (List (au×au×Nat))
 |.gW=>some []
 |.map id=>match H[id]? with
  |some (.map es _)=>some es
  |_=>none
 |_=>none
def yZ (z:au) (ok:Bool) (r:Option (Nat×au)):au:=
 let v:=match r with
  |some p=>p.2
  |none=>z
 if ok then .tup [v,.bool r.isSome]else v
def mq (kk:Nat) (z:au) (ok:Bool) (H:Heap) (m k:au):Option au:=
 match lG H m with
 |some es=>(qy kk k es 0).map (yZ z ok)
 |none=>none
def yO (kk:Nat) (H:Heap) (m k v:au):Option Heap:=
 match m with
 |.map id=>match H[id]? with
  |some (.map es c)=>match qy kk k es 0 with
   |some (some p)=>some (H.set id (.map (es.modify p.1 fun e=>(k,v,e.2.2)) c))
   |some none=>some (H.set id (.map (es ++[(k,v,c)]) (c+1)))
   |none=>none
  |_=>none
 |_=>none
def uo (H:Heap) (m:au):Option Nat:=(lG H m).map (·.length)
def x9 (H:Heap) (it:au):Option au:=
 match it with
 |.ptr id 0=>match H[id]? with
  |some (.iJ (some m) _ seen last)=>match H[m]?,seen.getLast? with
   |some (.map es c),some b=>if c=last then(es.find? (·.2.2==b)).map fun p=>.tup [p.1,p.2.1]else none
   |_,_=>none
  |_=>none
 |_=>none
@[irreducible] def nextK (H : Heap) (it : au) (K : au → Heap → Prop) : Prop :=
 match it with
 | .ptr id 0 => match H[id]? with
  | some (.iJ none _ _ _) => K (.tup [.bool false]) H
  | some (.iJ (some m) since seen last) => match H[m]? with
   | some (.map es c) => (c = since ∧ last = c) ∧
     (∀ p ∈ es, p.2.2 ∉ seen → K (.tup [.bool true, p.1, p.2.1]) (H.set id (.iJ (some m) since (seen ++ [p.2.2]) c))) ∧
     ((∀ p ∈ es, p.2.2 ∈ seen) → K (.tup [.bool false]) H)
   | _ => False
  | _ => False
 | _ => False
def aF (L:Lnk) (q:AOp) (e:Env) (H:Heap) (K KP:au→Heap→Prop):Prop:=
 match q with
 |.mv x=>K (ev e x) H
 |.pick c a b=>match ev e c with
  |.bool t=>K (if t then ev e a else ev e b) H
  |_=>False
 |.alloc z t=>K (.ptr H.length 0) (H ++[.cells z t])
 |.box t x=>(ev e x).cells.all uJ=true∧K (.ptr H.length 0) (H ++[.cells (ev e x).cells t])
 |.build z parts=>(∀p∈parts,jH p.2.1 (ev e p.2.2)∧p.1+p.2.1≤z.length)∧
   K (.agg (Bv z (parts.map fun p=>(p.1,(ev e p.2.2).cells)))) H
 |.lit k _ _ _ parts=>(∀p∈parts,jH k (ev e p.2))∧K (.lst (parts.map fun p=>ev e p.2) .full) H
 |.Ik k t parts=>(∀p∈parts,jH k (ev e p.2))∧K (.vec H.length parts.length k 0 parts.length) (H ++[.arr parts.length (parts.map fun p=>ev e p.2) t])
 |.load k a=>match loadAt H k (ev e a)with
  |some v=>K v H
  |none=>False
 |.store k a x=>jH k (ev e x)∧match storeAt H k (ev e a) (ev e x)with
  |some H'=>K .undef H'
  |none=>False
 |.aJ x=>match ev e x with
  |.ptr id off=>K (.ptr id off) H
  |.lZ cs=>K (.lZ cs) H
  |.jv id v o=>K (.jv id v o) H
  |_=>False
 |.bin op x y=>match Ec op (ev e x) (ev e y)with
  |some v=>K v H
  |none=>False
 |.un op x=>match Ri op (ev e x)with
  |some v=>K v H
  |none=>False
 |.pz k x=>match ev e x with
  |.int _ n=>K (.int k (k.wrap n)) H
  |_=>False
 |.wN x=>match ev e x with
  |.str s=>K (.str s) H
  |_=>False
 |.zu x=>match ev e x with
  |.lst xs _=>match jT xs with
   |some s=>K (.str s) H
   |none=>False
  |_=>False
 |.pE x=>match ev e x with
  |.arr id _ off len=>match H[id]? with
   |some (.cells cs _)=>off+len≤cs.length∧match jT ((cs.drop off).take len)with
    |some s=>K (.str s) H
    |none=>False
   |_=>False
  |_=>False
 |.make z t x=>match ev e x with
  |.int _ n=>(0≤n∧n≤2^40)∧K (.arr H.length 1 0 n.toNat) (H ++[.cells (List.replicate n.toNat z) t])
  |_=>False
 |.eqNil k neg x=>match isNil k (ev e x)with
  |some b=>K (.bool (b !=neg)) H
  |none=>False
 |.qz neg x y=>match ev e x,ev e y with
  |.bool a,.bool b=>K (.bool ((a==b) !=neg)) H
  |_,_=>False
 |.bT ks neg x y=>match ev e x,ev e y with
  |.agg xs,.agg ys=>match bT ks xs ys with
   |some b=>K (.bool (b !=neg)) H
   |none=>False
  |_,_=>False
 |.mkI t x=>K (.iface t (ev e x)) H
 |.mkF f fi ca=>K (.fn f (fi.map (ev e)) (ca.map (ev e))) H
 |.wW x lo hi=>match ev e x with
  |.str s=>match fO (lo.map (ev e)) 0,fO (hi.map (ev e)) s.length with
   |some l,some h=>l≤h∧h≤s.length∧K (.str ((s.take h).drop l)) H
   |_,_=>False
  |_=>False
 |.yK k x lo hi=>match ev e x with
  |.lst xs tk=>match fO (lo.map (ev e)) 0,fO (hi.map (ev e)) xs.length with
   |some l,some h=>l≤h∧h≤xs.length∧dB k xs∧K (.lst ((xs.take h).drop l) (if l=0∧h=xs.length then tk else .none)) H
   |_,_=>False
  |.vec id ver k' off len=>match fO (lo.map (ev e)) 0,fO (hi.map (ev e)) len with
   |some l,some h=>(l≤h∧h≤len∧(l=0∨l<len)∧k'=k)∧K (.vec id ver k (off+l) (h-l)) H
   |_,_=>False
  |_=>False
 |.aB off x=>match ev e x with
  |.ptr id o=>K (.ptr id (o+off)) H
  |.lZ cs=>off≤cs.length∧K (.lZ (cs.drop off)) H
  |.jv id v o=>K (.jv id v (o+off)) H
  |_=>False
 |.fld off k x=>match ev e x with
  |.agg cs=>match k with
   |none=>match cs[off]? with
    |some c=>K c H
    |none=>False
   |some k=>off+k≤cs.length∧K (.agg ((cs.drop off).take k)) H
  |_=>False
 |.aV k x i=>match ev e x,ev e i with
  |.lst xs _,.int _ n=>0≤n∧match xs[n.toNat]? with
   |some y=>y.cells.length=k∧K (.lZ y.cells) H
   |none=>False
  |.arr id k' off len,.int _ n=>(0≤n∧n<len∧k'=1∧k=1)∧K (.ptr id (off+n.toNat)) H
  |.vec id ver k' off len,.int _ n=>(0≤n∧n<len∧k'=k)∧K (.jv id ver ((off+n.toNat)*k)) H
  |_,_=>False
 |.zf x i=>match ev e x,ev e i with
  |.str s,.int _ n=>0≤n∧match s[n.toNat]? with
   |some c=>K (.int .u8 c.toNat) H
   |none=>False
  |_,_=>False
 |.ext x i=>match ev e x with
  |.tup vs=>match vs[i]? with
   |some v=>K v H
   |none=>False
  |_=>False
 |.qx x=>match ev e x with
  |.str s=>K (.int .i64 s.length) H
  |_=>False
 |.jo x=>match ev e x with
  |.lst xs _=>K (.int .i64 xs.length) H
  |.arr _ _ _ n=>K (.int .i64 n) H
  |.vec _ _ _ _ n=>K (.int .i64 n) H
  |_=>False
 |.append k bytes t s x=>lH k bytes t (ev e s) (ev e x) H K
 |.jY bytes t s x=>Gy bytes t (ev e s) (ev e x) H K
 |.ssd x=>match ev e x with
  |.lst xs tk=>(xs≠[]∨tk=.nil)∧K (.qN xs tk) H
  |_=>False
 |.GR t p n=>match ev e p,ev e n with
  |.qN xs tk,.int .i64 m=>m=xs.length∧xs.length≤2^46∧match jT xs with
   |some s=>match tk with
    |.nil=>K (.str []) H
    |.tail id=>match H[id]? with
     |some (.tail k t')=>(k=xs.length∧t'=t∧xs≠[])∧K (.str s) (H.set id .gone)
     |_=>False
    |_=>False
   |none=>False
  |_,_=>False
 |.call f args=>aC L f (args.map (ev e)) H (eB K KP)
 |.fJ f args=>match ev e f with
  |.fn (.func g) fi ca=>aC L g (fi ++args.map (ev e) ++ca) H (eB K KP)
  |.yld id=>iZ L id (args.map (ev e)) H (eB K KP)
  |_=>False
 |.mkMap=>K (.map H.length) (H ++[.map [] 0])
 |.look kk z ok m k=>match mq kk z ok H (ev e m) (ev e k)with
  |some v=>K v H
  |none=>False
 |.ug kk m k v=>match yO kk H (ev e m) (ev e k) (ev e v)with
  |some H'=>K .undef H'
  |none=>False
 |.uo m=>match uo H (ev e m)with
  |some n=>K (.int .i64 n) H
  |none=>False
 |.clr k z x=>match IV k z H (ev e x)with
  |some H'=>K (.tup []) H'
  |none=>False
 |.rO m=>match ev e m with
  |.gW=>K (.ptr H.length 0) (H ++[.iJ none 0 [] 0])
  |.map id=>match H[id]? with
   |some (.map _ c)=>K (.ptr H.length 0) (H ++[.iJ (some id) c [] c])
   |_=>False
  |_=>False
 |.vC it=>nextK H (ev e it) K
 |.oG it=>match x9 H (ev e it)with
  |some v=>K v H
  |none=>False
 |.panic x=>match ev e x with
  |.iface t v=>KP (.iface t v) H
  |_=>False
def bg (e:Env) (d:Option Nat) (v:au):Env:=match d with
 |some i=>upd e i v
 |none=>e
def nu (L:Lnk):List AO→Env→Heap→(Env→Heap→Prop)→(au→Heap→Prop)→Prop
 |[],e,H,K,_=>K e H
 |o::os,e,H,K,KP=>match o.guard with
  |none=>aF L o.op e H (fun v H'=>nu L os (bg e o.dst v) H' K KP) KP
  |some (t,want)=>match e t with
   |.bool b=>match want,b with
    |true,true=>aF L o.op e H (fun v H'=>nu L os (bg e o.dst v) H' K KP) KP
    |false,false=>aF L o.op e H (fun v H'=>nu L os (bg e o.dst v) H' K KP) KP
    |true,false=>nu L os (bg e o.dst (.tup [])) H K KP
    |false,true=>nu L os (bg e o.dst (.tup [])) H K KP
   |.tup []=>nu L os (bg e o.dst (.tup [])) H K KP
   |_=>False
abbrev ng :=BJ→Env→Heap→Prop
def tN (f:Env→Heap→Prop) (Q:ng):ng:=fun x e H=>match x with
 |.normal=>f e H
 |x=>Q x e H
def Vo (id:Nat) (Q:ng):ng:=fun x e H=>match x with
 |.exit i=>match i==id with
  |true=>Q .normal e H
  |false=>Q (.exit i) e H
 |x=>Q x e H
def agree (n:Nat) (H H':Heap):Prop:=n≤H'.length∧∀i o,i<n→H[i]?=some o→((∀m t,o≠.tail m t)∧∀v xs t,o≠.arr v xs t)→o≠.dead→H'[i]?=some o
def Tc :AOp→Bool
 |.store _ _ _|.append _ _ _ _ _|.jY _ _ _ _|.GR _ _ _|.panic _|.pE _|.make _ _ _|.mkMap|.look _ _ _ _ _|.ug _ _ _ _|.uo _|.rO _|.vC _|.oG _|.clr _ _ _|.Ik _ _ _=>false
 |_=>true
def qU (n:Nat):au→Bool
 |.ptr id _=>decide (id<n)
 |.lZ _=>true
 |_=>false
def eP (L:Lnk) (q:AOp) (e:Env) (H0 H:Heap) (K:au→Heap→Prop):Prop:=
 match q with
 |.alloc z t=>K (.ptr H.length 0) (H ++[.cells z t])
 |.box t x=>(ev e x).cells.all uJ=true∧K (.ptr H.length 0) (H ++[.cells (ev e x).cells t])
 |.load k a=>qU H0.length (ev e a)=true∧match loadAt H0 k (ev e a)with
  |some v=>K v H
  |none=>False
 |.call f args=>∃v,(∀H',agree H0.length H0 H'→aC L f (args.map (ev e)) H' fun r H''=>r=.ret v∧H''=H')∧K v H
 |.fJ f args=>match ev e f with
  |.fn (.func g) fi ca=>∃v,(∀H',agree H0.length H0 H'→aC L g (fi ++args.map (ev e) ++ca) H' fun r H''=>r=.ret v∧H''=H')∧K v H
  |_=>False
 |.store _ _ _|.append _ _ _ _ _|.jY _ _ _ _|.GR _ _ _|.panic _|.pE _|.make _ _ _|.mkMap|.look _ _ _ _ _|.ug _ _ _ _|.uo _|.rO _|.vC _|.oG _|.clr _ _ _|.Ik _ _ _=>False
 |q=>aF L q e H K fun _ _=>False
def iA (L:Lnk) (H0:Heap):List AO→Env→Heap→(Env→Heap→Prop)→Prop
 |[],e,H,K=>K e H
 |o::os,e,H,K=>match o.guard with
  |none=>eP L o.op e H0 H (fun v H'=>iA L H0 os (bg e o.dst v) H' K)
  |some (t,want)=>match e t with
   |.bool b=>match want,b with
    |true,true=>eP L o.op e H0 H (fun v H'=>iA L H0 os (bg e o.dst v) H' K)
    |false,false=>eP L o.op e H0 H (fun v H'=>iA L H0 os (bg e o.dst v) H' K)
    |true,false=>iA L H0 os (bg e o.dst (.tup [])) H K
    |false,true=>iA L H0 os (bg e o.dst (.tup [])) H K
   |.tup []=>iA L H0 os (bg e o.dst (.tup [])) H K
   |_=>False
def stays :List (Option Nat×AX)→Env→Heap→Heap→Prop
 |[],_,_,_=>True
 |p::l,e,H,H'=>loadAt H' p.1 (ev e p.2)=loadAt H p.1 (ev e p.2)∧stays l e H H'
def jU (ks:List (Option Nat×AX)) (e0:Env) (H0 H:Heap) (K:Prop):Prop:=match ks with
 |[]=>K
 |k::ks=>stays (k::ks) e0 H0 H∧K
theorem nA {ks:List (Option Nat×AX)} {e0:Env} {H0 H:Heap} {K:Prop}:jU ks e0 H0 H K↔stays ks e0 H0 H∧K:=by
 cases ks with
 |nil=>exact⟨fun h=>⟨trivial,h⟩,fun h=>h.2⟩
 |cons k ks=>exact Iff.rfl
def Bn (m:LT) (A B:Prop):Prop:=match m with
 |.stop=>A
 |_=>A∧B
theorem qZ {m:LT} {A B:Prop} (h:Bn m A B):A:=by cases m<;>first|exact h|exact h.1
theorem yV {m:LT} {A B:Prop} (hs:m=.stop→B) (h:Bn m A B):B:=by cases m<;>first|exact hs rfl|exact h.2
theorem sD {m:LT} {A B:Prop} (h1:A) (h2:B):Bn m A B:=by cases m<;>first|exact h1|exact⟨h1,h2⟩
def xlt (L:Lnk) (e0:Env) (H0:Heap):LT→Env→Heap→(Env→Heap→Prop)→(au→Heap→Prop)→Prop
 |.done,e,H,K,_=>K e H
 |.stop,_,_,_,_=>True
 |.bad,_,_,_,_=>False
 |.alt o ks t more,e,H,K,KP=>Bn more (match o.guard with
  |none=>aF L o.op e H (fun v H'=>jU ks e0 H0 H' (xlt L e0 H0 t (bg e o.dst v) H' K KP)) KP
  |some (s,want)=>match e s with
   |.bool b=>match want,b with
    |true,true=>aF L o.op e H (fun v H'=>jU ks e0 H0 H' (xlt L e0 H0 t (bg e o.dst v) H' K KP)) KP
    |false,false=>aF L o.op e H (fun v H'=>jU ks e0 H0 H' (xlt L e0 H0 t (bg e o.dst v) H' K KP)) KP
    |true,false=>xlt L e0 H0 t (bg e o.dst (.tup [])) H K KP
    |false,true=>xlt L e0 H0 t (bg e o.dst (.tup [])) H K KP
   |.tup []=>xlt L e0 H0 t (bg e o.dst (.tup [])) H K KP
   |_=>False) (xlt L e0 H0 more e H K KP)
def Bb (e:Env):List Nat→List au→Env
 |p::ps,v::vs=>Bb (upd e p v) ps vs
 |_,_=>e
def uX (l:Nat) (r:rQ) (B:Env→Heap→Prop):ng:=fun x e H=>match x with
 |.normal=>match H[l]? with
  |some (.loop r' .ready)=>r'=r∧B e (H.set l (.loop r .busy))
  |_=>False
 |_=>False
def C8 (l:Nat) (r:rQ) (st:LSt) (K:Heap→Prop) (H:Heap):Prop:=match H[l]? with
 |some (.loop r' .busy)=>r'=r∧K (H.set l (.loop r st))
 |_=>False
def Hr (l:Nat) (r:rQ) (R:fE→Heap→Prop):ng:=fun x _ H=>match x with
 |.normal=>C8 l r .ready (R (.ret (.bool true))) H
 |.ret=>C8 l r .ret (R (.ret (.bool false))) H
 |.exit id=>C8 l r (.exit id) (R (.ret (.bool false))) H
 |.pan _=>False
def Kg (l:Nat) (r:rQ) (Q:ng) (e:Env):fE→Heap→Prop:=fun x H=>match x with
 |.ret _=>match H[l]? with
  |some (.loop r' .ready)=>r'=r∧Q .normal e (H.set l .gone)
  |some (.loop r' .ret)=>r'=r∧Q .ret e (H.set l .gone)
  |some (.loop r' (.exit id))=>r'=r∧Q (.exit id) e (H.set l .gone)
  |_=>False
 |.pan v=>Q (.pan v) e H
def dI (L : Lnk) : AC → Env → Heap → ng → Prop
 | .skip, e, H, Q => Q .normal e H
 | .ops l, e, H, Q => nu L l e H (fun e' H' => Q .normal e' H') (fun v H' => Q (.pan v) e H')
 | .draw soft hard, e, H, Q => iA L H soft e H (fun e' H' => nu L hard e' H' (fun e'' H'' => Q .normal e'' H'') (fun v H'' => Q (.pan v) e' H''))
 | .iy soft t, e, H, Q => iA L H soft e H (fun e' H' => xlt L e' H t e' H' (fun e'' H'' => Q .normal e'' H'') (fun v H'' => Q (.pan v) e' H''))
 | .seq a b, e, H, Q => dI L a e H (tN (fun e' H' => dI L b e' H' Q) Q)
 | .cond c a b, e, H, Q => match ev e c with
  | .bool t => match t with
   | true => dI L a e H Q
   | false => dI L b e H Q
  | _ => False
 | .block id c, e, H, Q => dI L c e H (Vo id Q)
 | .loop c, e, H, Q => ∀ I : Env → Heap → Prop, (∀ e H, dI L c e H (tN I Q) → I e H) → GC L H.length I → I e H
 | .exit id, e, H, Q => Q (.exit id) e H
 | .ret, e, H, Q => Q .ret e H
 | .bad, _, _, _ => False
 | .tO f ps asg body, e, H, Q => match ev e f with
  | .fn (.func g) fi ca => ∀ r : rQ, r.e = e →
    (∀ (args : List au) (H1 : Heap) (R : fE → Heap → Prop), args.length = ps.length → H1[H.length]? = some (.loop r .ready) →
     dI L asg (Bb e ps args) H1 (uX H.length r fun e2 H2 => dI L body e2 H2 (Hr H.length r R)) → iZ L H.length args H1 R) →
    aC L g (fi ++ [.yld H.length] ++ ca) (H ++ [.loop r .ready]) (Kg H.length r Q e)
  | _ => False
def Y6 (e:Env) (H:Heap):LW→Option au
 |.tmp t=>some (e t)
 |.cell t k=>loadAt H k (e t)
def uY (e:Env) (H:Heap):List LW→Option (List au)
 |[]=>some []
 |r::rs=>match Y6 e H r,uY e H rs with
  |some v,some vs=>some (v::vs)
  |_,_=>none
def Wl (vs:List au):au:=match vs with
 |[v]=>v
 |vs=>.tup vs
def TK (rs:List LW) (Q:fE→Heap→Prop):ng:=fun x e' H'=>match x with
 |.normal|.ret=>match uY e' H' rs with
  |some vs=>Q (.ret (Wl vs)) H'
  |none=>False
 |.pan v=>Q (.pan v) H'
 |.exit _=>False
def xfunc (L:Lnk) (af:aM) (args:List au) (H:Heap) (Q:fE→Heap→Prop):Prop:=
 dI L af.body (fun i=>args.getD i .undef) H (TK af.results Q)
def gB (e:Env):List (Nat×au)→Env
 |[]=>e
 |(i,v)::l=>upd (gB e l) i v
def fC (e:Env):List (Nat×au)→Prop
 |[]=>True
 |(i,v)::l=>e i=v∧fC e l
theorem vX {e:Env} {l:List (Nat×au)} (h:fC e l):gB e l=e:=by
 induction l with
 |nil=>rfl
 |cons p l ih=>
  obtain⟨i,v⟩:=p;show upd (gB e l) i v=e;rw[ih h.2]
  funext j
  simp only[upd];split
  ·rename_i hj;subst hj;exact h.1.symm
  ·rfl
theorem inv_of {I:Env→Heap→Prop} {e:Env} {H:Heap} (l:List (Nat×au)) (h:fC e l) (hi:I (gB e l) H):I e H:=by
 rw[vX h]at hi;exact hi
theorem MR {H:Heap} {it:au} {K K':au→Heap→Prop} (hk:∀v H,K v H→K' v H) (h:nextK H it K):nextK H it K':=by
 unfold nextK at h⊢;split at h
 ·split at h
  ·exact hk _ _ h
  ·split at h
   ·exact⟨h.1,fun p hp hs=>hk _ _ (h.2.1 p hp hs),fun hp=>hk _ _ (h.2.2 hp)⟩
   ·exact h.elim
  ·exact h.elim
 ·exact h.elim
theorem eG {L:Lnk} {q:AOp} {e:Env} {H:Heap} {K K' KP KP':au→Heap→Prop} (hk:∀v H,K v H→K' v H) (hp:∀v H,KP v H→KP' v H)
  (h:aF L q e H K KP):aF L q e H K' KP':=by
 have hc:∀r H',eB K KP r H'→eB K' KP' r H':=fun r H' h=>by
  cases r
  ·exact hk _ _ h
  ·exact hp _ _ h
 cases q<;>simp only[aF]at h⊢
 all_goals first
  |exact hk _ _ h
  |exact h.elim
  |exact⟨h.1,hk _ _ h.2⟩
  |exact aC.mono h hc
  |skip
 case pick c a b=>generalize ev e c=vx at h⊢;cases vx<;>first|exact h.elim|exact hk _ _ h
 case load k a=>generalize loadAt H k (ev e a)=vx at h⊢;cases vx<;>first|exact h.elim|exact hk _ _ h
 case store k a x=>refine⟨h.1,?_⟩;replace h:=h.2;generalize storeAt H k (ev e a) (ev e x)=vx at h⊢;cases vx<;>first|exact h.elim|exact hk _ _ h
 case aJ x=>generalize ev e x=vx at h⊢;cases vx<;>first|exact h.elim|exact hk _ _ h
 case bin op x y=>generalize Ec op (ev e x) (ev e y)=vx at h⊢;cases vx<;>first|exact h.elim|exact hk _ _ h
 case un op x=>generalize Ri op (ev e x)=vx at h⊢;cases vx<;>first|exact h.elim|exact hk _ _ h
 case pz k x=>generalize ev e x=vx at h⊢;cases vx<;>first|exact h.elim|exact hk _ _ h
 case wN x=>generalize ev e x=vx at h⊢;cases vx<;>first|exact h.elim|exact hk _ _ h
 case zu x=>
  generalize ev e x=vx at h⊢;cases vx<;>try exact h.elim
  rename_i xs tk;dsimp only at h⊢;cases h1:jT xs<;>simp only[h1]at h⊢;exact hk _ _ h
 case pE x=>
  generalize ev e x=vx at h⊢;cases vx<;>try exact h.elim
  rename_i id k' off len;dsimp only at h⊢
  cases hH:H[id]? with
  |none=>rw[hH]at h;exact h.elim
  |some o=>
   cases o<;>simp only[hH]at h⊢;rename_i cs t;refine⟨h.1,?_⟩;replace h:=h.2;cases h1:jT ((cs.drop off).take len)<;>simp only[h1]at h⊢;exact hk _ _ h
 case make z t x=>generalize ev e x=vx at h⊢;cases vx<;>first|exact h.elim|exact⟨h.1,hk _ _ h.2⟩
 case eqNil k neg x=>generalize isNil k (ev e x)=vx at h⊢;cases vx<;>first|exact h.elim|exact hk _ _ h
 case qz neg x y=>generalize ev e x=vx at h⊢;generalize ev e y=vy at h⊢;cases vx<;>cases vy<;>first|exact h.elim|exact hk _ _ h
 case bT ks neg x y=>
  generalize ev e x=vx at h⊢;generalize ev e y=vy at h⊢;cases vx<;>cases vy<;>try exact h.elim
  rename_i xs ys;dsimp only at h⊢;cases h1:bT ks xs ys<;>simp only[h1]at h⊢;exact hk _ _ h
 case wW x lo hi=>
  generalize ev e x=vx at h⊢;cases vx<;>try exact h.elim
  rename_i s;dsimp only at h⊢;cases h1:fO (lo.map (ev e)) 0<;>simp only[h1]at h⊢ <;>cases h2:fO (hi.map (ev e)) s.length<;>simp only[h2]at h⊢;exact⟨h.1,h.2.1,hk _ _ h.2.2⟩
 case yK k x lo hi=>
  generalize ev e x=vx at h⊢;cases vx<;>try exact h.elim
  ·rename_i xs tk
   dsimp only at h⊢;cases h1:fO (lo.map (ev e)) 0<;>simp only[h1]at h⊢ <;>cases h2:fO (hi.map (ev e)) xs.length<;>simp only[h2]at h⊢;exact⟨h.1,h.2.1,h.2.2.1,hk _ _ h.2.2.2⟩
  ·rename_i id ver k' off len
   dsimp only at h⊢;cases h1:fO (lo.map (ev e)) 0<;>simp only[h1]at h⊢ <;>cases h2:fO (hi.map (ev e)) len<;>simp only[h2]at h⊢;exact⟨h.1,hk _ _ h.2⟩
 case aB off x=>generalize ev e x=vx at h⊢;cases vx<;>first|exact h.elim|exact hk _ _ h|exact⟨h.1,hk _ _ h.2⟩
 case fld off k x=>
  generalize ev e x=vx at h⊢;cases vx<;>try exact h.elim
  rename_i cs
  cases k with
  |none=>dsimp only at h⊢;cases h1:cs[off]?<;>simp only[h1]at h⊢;exact hk _ _ h
  |some k=>exact⟨h.1,hk _ _ h.2⟩
 case aV k x i=>
  generalize ev e x=vx at h⊢;generalize ev e i=vi at h⊢;cases vx<;>cases vi<;>try exact h.elim
  ·rename_i xs tk k' n
   dsimp only at h⊢;refine⟨h.1,?_⟩;replace h:=h.2;cases h1:xs[n.toNat]?<;>simp only[h1]at h⊢;exact⟨h.1,hk _ _ h.2⟩
  ·exact⟨h.1,hk _ _ h.2⟩
  ·exact⟨h.1,hk _ _ h.2⟩
 case zf x i=>
  generalize ev e x=vx at h⊢;generalize ev e i=vi at h⊢;cases vx<;>cases vi<;>try exact h.elim
  rename_i s k' n;dsimp only at h⊢;refine⟨h.1,?_⟩;replace h:=h.2;cases h1:s[n.toNat]?<;>simp only[h1]at h⊢;exact hk _ _ h
 case ext x i=>
  generalize ev e x=vx at h⊢;cases vx<;>try exact h.elim
  rename_i vs;dsimp only at h⊢;cases h1:vs[i]?<;>simp only[h1]at h⊢;exact hk _ _ h
 case qx x=>generalize ev e x=vx at h⊢;cases vx<;>first|exact h.elim|exact hk _ _ h
 case jo x=>generalize ev e x=vx at h⊢;cases vx<;>first|exact h.elim|exact hk _ _ h
 case append k bytes t s x=>
  unfold lH at h⊢;generalize ev e s=vs_ at h⊢;generalize ev e x=vx at h⊢;cases vs_<;>cases vx<;>try exact h.elim
  case vec.lst id ver k' off len ys tk'=>
   dsimp only at h⊢;refine⟨h.1,h.2.1,h.2.2.1,h.2.2.2.1,?_⟩;replace h:=h.2.2.2.2
   cases hH:H[id]? with
   |none=>rw[hH]at h;exact h.elim
   |some o=>cases o<;>simp only[hH]at h⊢;obtain⟨h1,nv,h2,h3⟩:=h;exact⟨h1,nv,h2,hk _ _ h3⟩
  rename_i xs tk ys tk';dsimp only at h⊢;refine⟨h.1,h.2.1,h.2.2.1,h.2.2.2.1,?_⟩;replace h:=h.2.2.2.2
  by_cases hy:ys=[]
  ·rw[if_pos hy]at h⊢;exact hk _ _ h
  ·rw[if_neg hy]at h⊢
   cases tk with
   |tail id=>
    dsimp only at h⊢
    cases hH:H[id]? with
    |none=>rw[hH]at h;exact h.elim
    |some o=>cases o<;>simp only[hH]at h⊢;exact⟨h.1,hk _ _ h.2⟩
   |none=>exact h.elim
   |nil=>exact h.imp (hk _ _) fun h=>h.imp (fun⟨id,h1,h2⟩=>⟨id,h1,hk _ _ h2⟩) fun h=>h.imp (fun⟨id,h1,h2⟩=>⟨id,h1,hk _ _ h2⟩) (hk _ _)
   |full=>exact h.imp (hk _ _) fun h=>h.imp (fun⟨id,h1,h2⟩=>⟨id,h1,hk _ _ h2⟩) fun h=>h.imp (fun⟨id,h1,h2⟩=>⟨id,h1,hk _ _ h2⟩) (hk _ _)
 case jY bytes t s x=>
  unfold Gy at h⊢;generalize ev e s=vs_ at h⊢;generalize ev e x=vx at h⊢;cases vs_<;>cases vx<;>try exact h.elim
  rename_i xs tk ys;dsimp only at h⊢;refine⟨h.1,h.2.1,h.2.2.1,?_⟩;replace h:=h.2.2.2
  by_cases hy:ys=[]
  ·rw[if_pos hy]at h⊢;exact hk _ _ h
  ·rw[if_neg hy]at h⊢
   cases tk with
   |tail id=>
    dsimp only at h⊢
    cases hH:H[id]? with
    |none=>rw[hH]at h;exact h.elim
    |some o=>cases o<;>simp only[hH]at h⊢;exact⟨h.1,hk _ _ h.2⟩
   |none=>exact h.elim
   |nil=>exact hk _ _ h
   |full=>exact hk _ _ h
 case ssd x=>generalize ev e x=vx at h⊢;cases vx<;>first|exact h.elim|exact⟨h.1,hk _ _ h.2⟩
 case GR t p n=>
  generalize ev e p=vp at h⊢;generalize ev e n=vn at h⊢;cases vp<;>cases vn<;>try exact h.elim
  rename_i xs tk k m;cases k<;>try exact h.elim
  dsimp only at h⊢;refine⟨h.1,h.2.1,?_⟩;replace h:=h.2.2;cases hb:jT xs<;>simp only[hb]at h⊢
  cases tk with
  |tail id=>
   dsimp only at h⊢
   cases hH:H[id]? with
   |none=>rw[hH]at h;exact h.elim
   |some o=>cases o<;>simp only[hH]at h⊢;exact⟨h.1,hk _ _ h.2⟩
  |nil=>exact hk _ _ h
  |none=>exact h.elim
  |full=>exact h.elim
 case fJ f args=>
  cases hf:ev e f<;>simp only[hf]at h⊢;rename_i af fi ca
  ·cases af<;>try exact h.elim
   exact aC.mono h hc
  ·exact iZ.mono h hc
 case look kk z ok m k=>generalize mq kk z ok H (ev e m) (ev e k)=vx at h⊢;cases vx<;>first|exact h.elim|exact hk _ _ h
 case clr k z x=>generalize IV k z H (ev e x)=vx at h⊢;cases vx<;>first|exact h.elim|exact hk _ _ h
 case ug kk m k v=>generalize yO kk H (ev e m) (ev e k) (ev e v)=vx at h⊢;cases vx<;>first|exact h.elim|exact hk _ _ h
 case uo m=>generalize uo H (ev e m)=vx at h⊢;cases vx<;>first|exact h.elim|exact hk _ _ h
 case rO m=>
  cases hm:ev e m<;>simp only[hm]at h⊢
  ·rename_i id
   cases hH:H[id]? with
   |none=>rw[hH]at h;exact h.elim
   |some o=>cases o<;>simp only[hH]at h⊢;exact hk _ _ h
  ·exact hk _ _ h
 case vC it=>exact MR hk h
 case oG it=>generalize x9 H (ev e it)=vx at h⊢;cases vx<;>first|exact h.elim|exact hk _ _ h
 case panic x=>generalize ev e x=vx at h⊢;cases vx<;>first|exact h.elim|exact hp _ _ h
theorem zM {L:Lnk} {l:List AO} {K K':Env→Heap→Prop} {KP KP':au→Heap→Prop} (hk:∀e H,K e H→K' e H) (hp:∀v H,KP v H→KP' v H):
  ∀{e:Env} {H:Heap},nu L l e H K KP→nu L l e H K' KP':=by
 induction l with
 |nil=>exact fun h=>hk _ _ h
 |cons o os ih=>
  intro e H h;simp only[nu]at h⊢
  cases hg:o.guard with
  |none=>simp only[hg]at h⊢;exact eG (fun v H' h=>ih h) hp h
  |some p=>
   obtain⟨t,want⟩:=p;simp only[hg]at h⊢;cases he:e t<;>simp only[he]at h⊢
   ·rename_i b
    cases want<;>cases b<;>first|exact eG (fun v H' h=>ih h) hp h|exact ih h
   ·rename_i vs
    cases vs with
    |nil=>exact ih h
    |cons=>exact False.elim h
theorem iX {L:Lnk} {q:AOp} {e:Env} {H0 H:Heap} {K K':au→Heap→Prop} (hk:∀v H,K v H→K' v H) (h:eP L q e H0 H K):eP L q e H0 H K':=by
 cases q<;>simp only[eP]at h⊢ <;>first
  |exact h.elim
  |exact hk _ _ h
  |exact⟨h.1,hk _ _ h.2⟩
  |exact eG hk (fun _ _ h=>h) h
  |(obtain⟨v,h1,h2⟩:=h;exact⟨v,h1,hk _ _ h2⟩)
  |skip
 case load k a=>refine⟨h.1,?_⟩;replace h:=h.2;generalize loadAt H0 k (ev e a)=vx at h⊢;cases vx<;>first|exact h.elim|exact hk _ _ h
 case fJ f args=>
  cases hf:ev e f<;>simp only[hf]at h⊢;rename_i af fi ca;cases af<;>try exact h.elim
  obtain⟨v,h1,h2⟩:=h;exact⟨v,h1,hk _ _ h2⟩
theorem gP {L:Lnk} {H0:Heap} {l:List AO} {K K':Env→Heap→Prop} (hk:∀e H,K e H→K' e H):∀{e:Env} {H:Heap},iA L H0 l e H K→iA L H0 l e H K':=by
 induction l with
 |nil=>exact fun h=>hk _ _ h
 |cons o os ih=>
  intro e H h;simp only[iA]at h⊢
  cases hg:o.guard with
  |none=>simp only[hg]at h⊢;exact iX (fun v H' h=>ih h) h
  |some p=>
   obtain⟨t,want⟩:=p;simp only[hg]at h⊢;cases he:e t<;>simp only[he]at h⊢
   ·rename_i b
    cases want<;>cases b<;>first|exact iX (fun v H' h=>ih h) h|exact ih h
   ·rename_i vs
    cases vs with
    |nil=>exact ih h
    |cons=>exact False.elim h
theorem ny {ks:List (Option Nat×AX)} {e0:Env} {H0 H:Heap} {K K':Prop} (hk:K→K') (h:jU ks e0 H0 H K):jU ks e0 H0 H K':=
 nA.2 ⟨(nA.1 h).1,hk (nA.1 h).2⟩
theorem uN {L:Lnk} {e0:Env} {H0:Heap} {m:LT} {e:Env} {H:Heap} {K:Env→Heap→Prop} {KP:au→Heap→Prop} (h:m=.stop):xlt L e0 H0 m e H K KP:=by subst h;exact trivial
theorem yB {L:Lnk} {e0:Env} {H0:Heap} {t:LT} {K K':Env→Heap→Prop} {KP KP':au→Heap→Prop} (hk:∀e H,K e H→K' e H) (hp:∀v H,KP v H→KP' v H):
  ∀{e:Env} {H:Heap},xlt L e0 H0 t e H K KP→xlt L e0 H0 t e H K' KP':=by
 induction t with
 |done=>exact fun h=>hk _ _ h
 |stop=>exact fun h=>h
 |bad=>exact fun h=>h
 |alt o ks t more iht ihm=>
  intro e H h;simp only[xlt]at h⊢;refine sD ?_ (ihm (yV uN h));replace h:=qZ h
  cases hg:o.guard with
  |none=>simp only[hg]at h⊢;exact eG (fun v H' h=>ny iht h) hp h
  |some p=>
   obtain⟨s,want⟩:=p;simp only[hg]at h⊢;cases he:e s<;>simp only[he]at h⊢
   ·rename_i b
    cases want<;>cases b<;>first|exact eG (fun v H' h=>ny iht h) hp h|exact iht h
   ·rename_i vs
    cases vs with
    |nil=>exact iht h
    |cons=>exact False.elim h
theorem lT {L:Lnk} {c:AC}:∀{e:Env} {H:Heap} {Q Q':BJ→Env→Heap→Prop},(∀x e H,Q x e H→Q' x e H)→dI L c e H Q→dI L c e H Q':=by
 induction c with
 |skip=>exact fun hq h=>hq _ _ _ h
 |ops l=>exact fun hq h=>zM (fun _ _ h=>hq _ _ _ h) (fun _ _ h=>hq _ _ _ h) h
 |draw soft hard=>exact fun hq h=>gP (fun _ _ h=>zM (fun _ _ h=>hq _ _ _ h) (fun _ _ h=>hq _ _ _ h) h) h
 |iy soft t=>exact fun hq h=>gP (fun _ _ h=>yB (fun _ _ h=>hq _ _ _ h) (fun _ _ h=>hq _ _ _ h) h) h
 |seq a b iha ihb=>
  intro e H Q Q' hq h;refine iha (fun x e H h=>?_) h
  cases x with
  |normal=>exact ihb hq h
  |_=>exact hq _ _ _ h
 |cond c a b iha ihb=>
  intro e H Q Q' hq h;simp only[dI]at h⊢;cases hc:ev e c<;>simp only[hc]at h⊢;rename_i b;cases b
  ·exact ihb hq h
  ·exact iha hq h
 |block id c ih=>
  intro e H Q Q' hq h;refine ih (fun x e H h=>?_) h
  cases x with
  |exit i=>
   simp only[Vo]at h⊢;cases hb:i==id<;>simp only[hb]at h⊢ <;>exact hq _ _ _ h
  |_=>exact hq _ _ _ h
 |loop c ih=>
  intro e H Q Q' hq h I hI hG;refine h I (fun e H hc=>hI e H (ih (fun x e H h=>?_) hc)) hG
  cases x with
  |normal=>exact h
  |_=>exact hq _ _ _ h
 |exit id=>exact fun hq h=>hq _ _ _ h
 |ret=>exact fun hq h=>hq _ _ _ h
 |bad=>exact fun _ h=>h.elim
 |tO f ps asg body iha ihb=>
  intro e H Q Q' hq h;simp only[dI]at h⊢;cases hf:ev e f<;>simp only[hf]at h⊢;rename_i af fi ca;cases af<;>try exact h.elim
  intro r hr hy;refine(h r hr hy).mono fun x H' hx=>?_
  cases x with
  |pan v=>exact hq _ _ _ hx
  |ret v=>
   simp only[Kg]at hx⊢;split at hx
   ·exact⟨hx.1,hq _ _ _ hx.2⟩
   ·exact⟨hx.1,hq _ _ _ hx.2⟩
   ·exact⟨hx.1,hq _ _ _ hx.2⟩
   ·exact hx.elim
end Go.Ag
/- What the machine's memory operations do to a state that stands for an abstract heap. -/
namespace Go.Ag
open Go
open Go.RowKit (Below)
variable {L : Lnk} {g g' : aA} {w w' : World} {H : Heap}
def aA.dW (g:aA) (id ver:Nat) (s:ko):aA:={g with ob:=fun i v=>if i=id∧v=ver then some s else g.ob i v}
def aA.jc (g:aA) (b lo:Nat) (vs:List Value):aA:=
 {g with fz:=fun b' o=>if b'=b∧lo≤o∧o<lo+vs.length then vs[o-lo]? else g.fz b' o}
theorem aA.jN {id ver:Nat} (h:g.ob id ver=none) (s:ko):g.le (g.dW id ver s):=
 ⟨rfl,rfl,fun _ _ _ h=>h,fun i v s' h'=>by
  simp only[aA.dW];split
  ·rename_i hh;obtain⟨rfl,rfl⟩:=hh;rw[h]at h';cases h'
  ·exact h',rfl,fun _ _ _=>rfl,fun _ h=>h⟩
theorem aA.nX {b lo:Nat} {vs:List Value} (hk:g.kp b=none) (h:∀o,lo≤o→o<lo+vs.length→g.fz b o=none):g.le (g.jc b lo vs):=
 ⟨rfl,rfl,fun b' o v h'=>by
  simp only[aA.jc];split
  ·rename_i hh;obtain⟨rfl,h1,h2⟩:=hh;rw[h o h1 h2]at h';cases h'
  ·exact h',fun _ _ _ h=>h,rfl,fun b' o hb'=>by
  simp only[aA.jc];rw[if_neg]
  rintro⟨rfl,_⟩
  exact hb' hk,fun _ h=>h⟩
theorem aA.bF (g:aA) (id ver:Nat) (s:ko):(g.dW id ver s).ob id ver=some s:=by simp[aA.dW]
theorem aA.dN (g:aA) (id ver:Nat) (s:ko) {i v:Nat} (h:i≠id):(g.dW id ver s).ob i v=g.ob i v:=by simp[aA.dW,h]
theorem aA.uW (g:aA) (id ver:Nat) (s:ko):(g.dW id ver s).fz=g.fz:=rfl
theorem aA.qj (g:aA) (b lo:Nat) (vs:List Value) (j:Nat) (v:Value) (h:vs[j]?=some v):(g.jc b lo vs).fz b (lo+j)=some v:=by
 have hj:j<vs.length:=by
  rcases Nat.lt_or_ge j vs.length with h'|h'
  ·exact h'
  ·rw[List.getElem?_eq_none h']at h;cases h
 simp only[aA.jc];rw[if_pos ⟨trivial,by omega,by omega⟩,show lo+j-lo=j from by omega,h]
theorem aA.Jz (g:aA) {b b':Nat} (lo:Nat) (vs:List Value) (h:b'≠b) (o:Nat):(g.jc b lo vs).fz b' o=g.fz b' o:=by simp[aA.jc,h]
theorem kN.SY {id:Nat} {o:aU} (h:kN L g w id o) (hz:∀b o v,g.fz b o=some v→g'.fz b o=some v) (ho:∀i k s,g.ob i k=some s→g'.ob i k=some s) (hown:∀b,g.own b→g'.own b) (hob:∀v,g'.ob id v=g.ob id v)
  (hw:o.alive=true→∀s,g.ob id o.ver=some s→w'.heap[s.b]?=w.heap[s.b]?∧∀x,g'.fz s.b x=g.fz s.b x):kN L g' w' id o:=by
 cases o with
 |dead=>exact fun v=>(hob v).trans (h v)
 |gone=>trivial
 |cells cs t=>
  obtain⟨s,vs,h1,h2,h3,h4,h5,h6⟩:=h;obtain⟨k1,k2⟩:=hw rfl s h1;exact⟨s,vs,(hob 0).trans h1,h2,k1.trans h3,h4.sF hz ho,fun o=>(k2 o).trans (h5 o),hown _ h6⟩
 |tail n t=>
  obtain⟨s,vs,h1,h0,h2,h3,h4,h5,h6⟩:=h;obtain⟨k1,k2⟩:=hw rfl s h1;exact⟨s,vs,(hob n).trans h1,h0,fun m hm=>(hob m).trans (h2 m hm),k1.trans h3,h4,fun o hx=>(k2 o).trans (h5 o hx),hown _ h6⟩
 |arr v xs t=>
  obtain⟨s,vs,h1,h0,h2,h3,h4,h5,h6,h7,h8,h9,h10⟩:=h;obtain⟨k1,k2⟩:=hw rfl s h1;exact⟨s,vs,(hob v).trans h1,h0,fun m hm=>(hob m).trans (h2 m hm),h3,k1.trans h4,h5,h6,h7,h8.sF hz ho,fun o=>(k2 o).trans (h9 o),hown _ h10⟩
 |map es clock=>
  obtain⟨s,ents,h1,h2,h3,h4,h5,h6,h7⟩:=h;obtain⟨k1,k2⟩:=hw rfl s h1;exact⟨s,ents,(hob 0).trans h1,k1.trans h2,h3.sF hz ho,h4.sF hz ho,h5,hown _ h6,h7⟩
 |iJ m since seen last=>
  obtain⟨s,h1,h2,h3⟩:=h;obtain⟨k1,k2⟩:=hw rfl s h1
  cases m with
  |none=>exact⟨s,(hob 0).trans h1,hown _ h2,k1.trans h3⟩
  |some mid=>
   obtain⟨sm,h3,h4⟩:=h3;exact⟨s,(hob 0).trans h1,hown _ h2,sm,ho _ _ _ h3,k1.trans h4⟩
 |loop r st=>
  obtain⟨s,h1,h2,h3,h4⟩:=h;obtain⟨k1,k2⟩:=hw rfl s h1;exact⟨s,(hob 0).trans h1,k1.trans h2,fun i=>(h3 i).sF hz ho,hown _ h4⟩
theorem kN.keep {id:Nat} {o:aU} (h:kN L g w id o) (hg:g.le g') (hob:∀v,g'.ob id v=g.ob id v)
  (hw:o.alive=true→∀s,g.ob id o.ver=some s→w'.heap[s.b]?=w.heap[s.b]?∧∀x,g'.fz s.b x=g.fz s.b x):kN L g' w' id o:=
 h.SY hg.fz hg.ob (fun _=>hg.own) hob hw
theorem kN.place {id:Nat} {o:aU} (h:kN L g w id o) (ha:o.alive=true):∃s,g.ob id o.ver=some s∧g.own s.b:=by
 cases o with
 |dead=>cases ha
 |gone=>cases ha
 |cells cs t=>obtain⟨s,_,h1,_,_,_,_,h6⟩:=h;exact⟨s,h1,h6⟩
 |tail n t=>obtain⟨s,_,h1,_,_,_,_,_,h6⟩:=h;exact⟨s,h1,h6⟩
 |arr v xs t=>obtain⟨s,_,h1,_,_,_,_,_,_,_,_,_,h6⟩:=h;exact⟨s,h1,h6⟩
 |map es c=>obtain⟨s,_,h1,_,_,_,_,h6,_⟩:=h;exact⟨s,h1,h6⟩
 |iJ m since seen last=>obtain⟨s,h1,h2,_⟩:=h;exact⟨s,h1,h2⟩
 |loop r st=>obtain⟨s,h1,_,_,h4⟩:=h;exact⟨s,h1,h4⟩
theorem OX {a:Addr} {v:Value} (h:w.cell? a=some v):a.block<w.heap.size:=by
 simp only[World.cell?]at h;rcases Nat.lt_or_ge a.block w.heap.size with h'|h'
 ·exact h'
 ·rw[Array.getElem?_eq_none h']at h;cases h
theorem St.Gd (h:St L g w H) {b o:Nat} {v:Value} (hf:g.fz b o=some v):b<w.heap.size:=OX (h.fz b o v hf)
theorem St.oH (h:St L g w H) (o:Nat):g.fz w.heap.size o=none:=by
 cases hf:g.fz w.heap.size o with
 |none=>rfl
 |some v=>have:=h.Gd hf;omega
theorem St.wQ (h:St L g w H):g.base≤w.heap.size:=Nat.le_trans h.bs h.below.size
theorem St.uw (h:St L g w H):g.kp w.heap.size=none:=by
 cases hk:g.kp w.heap.size with
 |none=>rfl
 |some o=>have:=h.kp _ _ hk;simp at this
theorem St.Gl (h:St L g w H) {b:Nat} (hk:g.dk b=true):b<w.heap.size:=by
 have:=h.dk _ hk;rcases Nat.lt_or_ge b w.heap.size with h'|h'
 ·exact h'
 ·rw[Array.getElem?_eq_none h']at this;cases this
theorem St.IK (h:St L g w H) {b0:Nat} {o:Obj} (h0:w.heap[b0]?=some o) (hne:o≠.deferred (some [])) (ho:∀b,b≠b0→w'.heap[b]?=w.heap[b]?):
  ∀b,g.dk b=true→w'.heap[b]?=some (.deferred (some [])):=fun b hb=>by
 have h1:=h.dk b hb;rw[ho b (fun e=>by subst e;rw[h0]at h1;exact hne (Option.some.inj h1))];exact h1
theorem St.jG (h:St L g w H):g.own w.heap.size:=⟨h.wQ,h.uw⟩
theorem St.OA (h:St L g w H) {b:Nat} {o:Obj} (hk:g.kp b=some o):b<w.heap.size:=by
 have:=h.kp _ _ hk;rcases Nat.lt_or_ge b w.heap.size with h'|h'
 ·exact h'
 ·rw[Array.getElem?_eq_none h']at this;cases this
theorem St.Oz (_h:St L g w H) {b b':Nat} {o:Obj} (ho:g.own b') (hk:g.kp b=some o):b≠b':=fun e=>by subst e;rw[ho.2]at hk;cases hk
theorem heap_alloc_old (w:World) (o:Obj) {b:Nat} (h:b<w.heap.size):(w.alloc o).heap[b]?=w.heap[b]?:=Below.heap_alloc w o b h
theorem dG (w:World) (o:Obj):(w.alloc o).heap[w.heap.size]?=some o:=by
 show(w.heap.push o)[w.heap.size]?=_;simp
theorem cO (w:World) (o:Obj):(w.alloc o).heap.size=w.heap.size+1:=by
 show(w.heap.push o).size=_;simp
theorem Es (w:World) (o:Obj) {a:Addr} (h:a.block<w.heap.size):(w.alloc o).cell? a=w.cell? a:=by
 simp only[World.cell?,heap_alloc_old w o h]
theorem nT (w:World) (vs:Array Value) (t:TypeId) (fr:Nat×Nat) (o:Nat):(w.alloc (.cells vs t fr)).cell? ⟨w.heap.size,o,none⟩=vs[o]?:=by
 simp only[World.cell?,dG,Option.isSome_none,Bool.false_eq_true,if_false]
theorem St.alloc (h:St L g w H) (o:Obj):St L g (w.alloc o) H:=by
 have hB:=h.wQ;refine⟨fun b x v hf=>(Es w o (h.Gd hf)).trans (h.fz b x v hf),fun id ob ho=>?_,h.new,fun id v s hs=>?_,h.inj,h.below.alloc hB o,h.bs,h.fact,fun b ob hk=>(heap_alloc_old w o (h.OA hk)).trans (h.kp b ob hk),fun b hk=>(heap_alloc_old w o (h.Gl hk)).trans (h.dk b hk)⟩
 ·exact(h.obj id ob ho).keep (aA.le.refl g) (fun _=>rfl) fun _ s hs=>⟨heap_alloc_old w o (h.bnd _ _ _ hs),fun _=>rfl⟩
 ·rw[cO];have:=h.bnd _ _ _ hs;omega
theorem St.pO {g:aA} (h:St L g w H) {b lo:Nat} {vs:List Value} (hkb:g.kp b=none) (hf:∀o,lo≤o→o<lo+vs.length→g.fz b o=none)
  (hc:∀j v,vs[j]?=some v→w.cell? ⟨b,lo+j,none⟩=some v) (hn:∀id o s,H[id]?=some o→o.alive=true→g.ob id o.ver=some s→s.b≠b):St L (g.jc b lo vs) w H:=by
 have hle:g.le (g.jc b lo vs):=aA.nX hkb hf;refine⟨fun b' o v hv=>?_,fun id ob ho=>?_,h.new,h.bnd,h.inj,h.below,h.bs,h.fact,h.kp,h.dk⟩
 ·simp only[aA.jc]at hv
  split at hv
  ·rename_i hh
   obtain⟨rfl,h1,h2⟩:=hh;have:=hc (o-lo) v hv;rwa[show lo+(o-lo)=o from by omega]at this
  ·exact h.fz b' o v hv
 ·exact(h.obj id ob ho).keep hle (fun _=>rfl) fun ha s hs=>⟨rfl,fun x=>aA.Jz g lo vs (hn id ob s ho ha hs) x⟩
theorem St.push (h:St L g w H) {b:Nat} {ob:aU} {s:ko} (hs:s.b=b) (hbw:b<w.heap.size) (hn:∀id o s,H[id]?=some o→o.alive=true→g.ob id o.ver=some s→s.b≠b)
  (hok:kN L (g.dW H.length ob.ver s) w H.length ob):g.le (g.dW H.length ob.ver s)∧St L (g.dW H.length ob.ver s) w (H ++[ob]):=by
 have hnone:g.ob H.length ob.ver=none:=h.new _ _ (Nat.le_refl _);have hle:g.le (g.dW H.length ob.ver s):=aA.jN hnone s
 have hlt:∀(i:Nat) (o:aU),H[i]?=some o→i<H.length:=fun i o hi=>by
  rcases Nat.lt_or_ge i H.length with h'|h'
  ·exact h'
  ·rw[List.getElem?_eq_none h']at hi;cases hi
 have hget:∀(i:Nat) (o:aU),(H ++[ob])[i]?=some o→H[i]?=some o∨(i=H.length∧o=ob):=by
  intro i o hi;rcases Nat.lt_trichotomy i H.length with h'|h'|h'
  ·rw[List.getElem?_append_left h']at hi;exact .inl hi
  ·subst h';simp at hi;exact .inr ⟨rfl,hi.symm⟩
  ·rw[List.getElem?_eq_none (by simp;omega)]at hi;cases hi
 refine⟨hle,h.fz,fun id o ho=>?_,fun id v hv=>?_,fun id v s' hs'=>?_,fun i j o o' s1 s2 hi hj ha ha' h1 h2 hb=>?_,h.below,h.bs,h.fact,h.kp,h.dk⟩
 ·rcases hget id o ho with ho|⟨rfl,rfl⟩
  ·have:=hlt _ _ ho
   exact(h.obj id o ho).keep hle (fun v=>aA.dN g _ _ s (by omega)) fun _ _ _=>⟨rfl,fun _=>rfl⟩
  ·exact hok
 ·simp at hv
  rw[aA.dN g _ _ s (by omega)];exact h.new id v (by omega)
 ·simp only[aA.dW]at hs'
  split at hs'
  ·cases hs';omega
  ·exact h.bnd _ _ _ hs'
 ·rcases hget i o hi with hi'|⟨rfl,rfl⟩<;>rcases hget j o' hj with hj'|⟨rfl,rfl⟩
  ·have:=hlt _ _ hi';have:=hlt _ _ hj'
   rw[aA.dN g _ _ s (by omega)]at h1 h2;exact h.inj i j o o' s1 s2 hi' hj' ha ha' h1 h2 hb
  ·have:=hlt _ _ hi'
   rw[aA.dN g _ _ s (by omega)]at h1;rw[aA.bF]at h2;cases h2;exact absurd (hb.trans hs) (hn i o s1 hi' ha h1)
  ·have:=hlt _ _ hj'
   rw[aA.dN g _ _ s (by omega)]at h2;rw[aA.bF]at h1;cases h1;exact absurd (hb.symm.trans hs) (hn j o' s2 hj' ha' h2)
  ·rfl
theorem St.new_ne (h:St L g w H):∀id (o:aU) s,H[id]?=some o→o.alive=true→g.ob id o.ver=some s→s.b≠w.heap.size:=fun id o s _ _ hs=>by
 have:=h.bnd _ _ _ hs;omega
theorem St.box (h:St L g w H) (vs:Array Value) (t:Nat) (cs:List au) (hr:aX L g vs.toList cs):
  ∃g',g.le g'∧St L g' (w.alloc (.cells vs (L.ty t))) (H ++[.cells cs t])∧Rep L g' (.pointer (some ⟨w.heap.size,0,none⟩)) (.ptr H.length 0):=by
 have h1:=h.alloc (.cells vs (L.ty t));have hnone:g.ob H.length 0=none:=h.new _ _ (Nat.le_refl _)
 let s:ko:=⟨w.heap.size,0,vs.size,0⟩
 have hle:g.le (g.dW H.length 0 s):=aA.jN hnone s
 obtain⟨k1,k2⟩:=h1.push (b:=w.heap.size) (ob:=.cells cs t) (s:=s) rfl (by rw[cO];omega) h.new_ne
  ⟨s,vs,aA.bF ..,rfl,dG ..,hr.mono hle,h.oH,h.jG⟩
 exact⟨_,k1,k2,.ptr H.length 0 s (aA.bF ..) rfl⟩
theorem St.literal (h:St L g w H) (vs:Array Value) (t:TypeId) (xs:List au) (k:Nat) (hk:∀x∈xs,x.cells.length=k) (hr:aX L g vs.toList (flat xs)):
  ∃g',g.le g'∧St L g' (w.alloc (.cells vs t)) H∧Rep L g' (.slice (some ⟨w.heap.size,0,none⟩) xs.length xs.length) (.lst xs .full):=by
 have h1:=h.alloc (.cells vs t);have hf:∀o,0≤o→o<0+vs.toList.length→g.fz w.heap.size o=none:=fun o _ _=>h.oH o
 have hle:=aA.nX h.uw hf;refine⟨g.jc w.heap.size 0 vs.toList,hle,h1.pO h.uw hf (fun j v hv=>?_) h.new_ne,?_⟩
 ·rw[nT,Nat.zero_add];simpa using hv
 ·exact .lst _ _ k w.heap.size 0 xs vs.toList .full (fun _=>rfl) (fun j v hv=>aA.qj _ _ _ _ j v hv) hk (Nat.le_refl _) rfl (hr.mono hle)
theorem St.Ww (h:St L g w H) (vs:Array Value) (t:Nat) (xs:List au) (k c:Nat) (h0:0<k) (hn:0<xs.length) (hk:∀x∈xs,x.cells.length=k) (hc:xs.length≤c) (hz:vs.size=c*k)
  (hr:aX L g (vs.toList.take (xs.length*k)) (flat xs)):
  ∃g',g.le g'∧St L g' (w.alloc (.cells vs (L.ty t))) (H ++[.tail xs.length t])∧Rep L g' (.slice (some ⟨w.heap.size,0,none⟩) xs.length c) (.lst xs (.tail H.length)):=by
 have h1:=h.alloc (.cells vs (L.ty t));have hf:∀o,0≤o→o<0+(vs.toList.take (xs.length*k)).length→g.fz w.heap.size o=none:=fun o _ _=>h.oH o
 have hle:=aA.nX h.uw hf
 have h2:St L (g.jc w.heap.size 0 (vs.toList.take (xs.length*k))) (w.alloc (.cells vs (L.ty t))) H:=h1.pO h.uw hf (fun j v hv=>by
  rw[nT,Nat.zero_add];rw[List.getElem?_take]at hv;split at hv
  ·simpa using hv
  ·cases hv) h.new_ne
 let s:ko:=⟨w.heap.size,0,vs.size,k⟩
 have hlen:(vs.toList.take (xs.length*k)).length=xs.length*k:=by
  have:xs.length*k≤c*k:=Nat.mul_le_mul_right _ hc;simp;omega
 obtain⟨k1,k2⟩:=h2.push (b:=w.heap.size) (ob:=.tail xs.length t) (s:=s) rfl (by rw[cO];omega) h.new_ne
  ⟨s,vs,aA.bF ..,rfl,fun m hm=>by
    simp only[aA.dW,aU.ver];rw[if_neg (by omega)];exact h.new _ _ (Nat.le_refl _),dG ..,rfl,fun o ho=>by
    show(g.jc w.heap.size 0 (vs.toList.take (xs.length*k))).fz w.heap.size o=none;simp only[aA.jc];rw[if_neg (by simp only[s]at ho;omega)]
    exact h.oH o,h.jG⟩
 refine⟨_,hle.trans k1,k2,.lst _ _ k w.heap.size 0 xs (vs.toList.take (xs.length*k)) _ (fun _=>rfl) (fun j v hv=>?_) hk hc ?_ (hr.mono (hle.trans k1))⟩
 ·exact aA.qj _ _ _ _ j v hv
 ·exact⟨s,aA.bF ..,rfl,rfl,by simp only[s];omega,h0,by omega⟩
theorem St.store (h:St L g w H) {id:Nat} {cs:List au} {t:Nat} (hid:H[id]?=some (.cells cs t)) {s:ko} (hs:g.ob id 0=some s) (w':World) (vs':Array Value)
  (hh:w'.heap[s.b]?=some (.cells vs' (L.ty t) (0,0))) (ho:∀b,b≠s.b→w'.heap[b]?=w.heap[b]?) (hsz:w'.heap.size=w.heap.size) (hos:w'.os=w.os) (htp:w'.tape=w.tape) (hout:w'.output=w.output)
  (cs':List au) (hr:aX L g vs'.toList cs'):St L g w' (H.set id (.cells cs' t)):=by
 obtain⟨s0,vs,h1,h2,h3,h4,h5,h6⟩:=h.obj id _ hid;rw[hs]at h1;cases h1
 have hlt:id<H.length:=by
  rcases Nat.lt_or_ge id H.length with h'|h'
  ·exact h'
  ·rw[List.getElem?_eq_none h']at hid;cases hid
 have hget:∀(i:Nat) (o:aU),(H.set id (.cells cs' t))[i]?=some o→(i=id∧o=.cells cs' t)∨(i≠id∧H[i]?=some o):=by
  intro i o hi;rw[List.getElem?_set]at hi;split at hi
  ·rename_i he;subst he;exact .inl ⟨rfl,by first|(rw[if_pos hlt]at hi;exact(Option.some.inj hi).symm)|exact(Option.some.inj hi).symm⟩
  ·rename_i he;exact .inr ⟨fun h=>he h.symm,hi⟩
 refine⟨fun b o v hv=>?_,fun i o hi=>?_,fun i v hi=>h.new i v (by simpa using hi),fun i v s' hs'=>by rw[hsz];exact h.bnd i v s' hs',fun i j o o' s1 s2 hi hj ha ha' e1 e2 hb=>?_,?_,h.bs,h.fact,fun b o hk=>(ho b (h.Oz h6 hk)).trans (h.kp b o hk),h.IK h3 (by simp) ho⟩
 ·have hne:b≠s.b:=fun e=>by subst e;rw[h5]at hv;cases hv
  have:=h.fz b o v hv;simp only[World.cell?]at this⊢;rw[ho b hne];exact this
 ·rcases hget i o hi with⟨rfl,rfl⟩|⟨hne,hi⟩
  ·exact⟨s,vs',hs,h2,hh,hr,h5,h6⟩
  ·refine(h.obj i o hi).keep (aA.le.refl g) (fun _=>rfl) fun ha s' hs'=>⟨ho _ fun e=>hne ?_,fun _=>rfl⟩
   exact h.inj i id o _ s' s hi hid ha rfl hs' hs e
 ·have key:∀i o s1,(H.set id (.cells cs' t))[i]?=some o→o.alive=true→g.ob i o.ver=some s1→∃o1,H[i]?=some o1∧o1.alive=true∧g.ob i o1.ver=some s1:=by
   intro i o s1 hi ha e1;rcases hget i o hi with⟨rfl,rfl⟩|⟨_,hi⟩
   ·exact⟨_,hid,rfl,e1⟩
   ·exact⟨o,hi,ha,e1⟩
  obtain⟨p,hp,ap,ep⟩:=key i o s1 hi ha e1;obtain⟨q,hq,aq,eq⟩:=key j o' s2 hj ha' e2;exact h.inj i j p q s1 s2 hp hq ap aq ep eq hb
 ·exact h.below.trans ⟨hos,htp,hout,by omega,fun b hb=>ho b (by have:=h6.1;omega)⟩
theorem St.Vq (h:St L g w H) {id n m t:Nat} (hid:H[id]?=some (.tail n t)) {s:ko} (hs:g.ob id n=some s) (hm:0<m) (w':World) (vs vs':Array Value)
  (hv:w.heap[s.b]?=some (.cells vs (L.ty t) (0,0))) (hh:w'.heap[s.b]?=some (.cells vs' (L.ty t) (0,0))) (ho:∀b,b≠s.b→w'.heap[b]?=w.heap[b]?) (hsz:w'.heap.size=w.heap.size) (hos:w'.os=w.os) (htp:w'.tape=w.tape) (hout:w'.output=w.output)
  (hsize:vs'.size=vs.size) (hold:∀j,j<s.s+n*s.k→vs'[j]?=vs[j]?) (us:List Value) (hul:us.length=m*s.k) (hus:∀j v,us[j]?=some v→vs'[s.s+n*s.k+j]?=some v):
  ∃g',g.le g'∧St L g' w' (H.set id (.tail (n+m) t))∧g'.ob id (n+m)=some s∧(∀j v,us[j]?=some v→g'.fz s.b (s.s+n*s.k+j)=some v):=by
 obtain⟨s0,vs0,h1,h00,h2,h3,h4,h5,h6⟩:=h.obj id _ hid;rw[hs]at h1;cases h1;rw[hv]at h3;cases h3
 have hlt:id<H.length:=by
  rcases Nat.lt_or_ge id H.length with h'|h'
  ·exact h'
  ·rw[List.getElem?_eq_none h']at hid;cases hid
 have hf:∀o,s.s+n*s.k≤o→o<s.s+n*s.k+us.length→g.fz s.b o=none:=fun o k1 _=>h5 o k1
 have hle1:=aA.nX h6.2 hf;have hnone:(g.jc s.b (s.s+n*s.k) us).ob id (n+m)=none:=h2 _ (by omega);have hle2:=aA.jN hnone s;have hle:=hle1.trans hle2
 have hget:∀(i:Nat) (o:aU),(H.set id (.tail (n+m) t))[i]?=some o→(i=id∧o=.tail (n+m) t)∨(i≠id∧H[i]?=some o):=by
  intro i o hi;rw[List.getElem?_set]at hi;split at hi
  ·rename_i he;subst he;exact .inl ⟨rfl,by first|(rw[if_pos hlt]at hi;exact(Option.some.inj hi).symm)|exact(Option.some.inj hi).symm⟩
  ·rename_i he;exact .inr ⟨fun h=>he h.symm,hi⟩
 have hmk:n*s.k+m*s.k=(n+m)*s.k:=(Nat.add_mul _ _ _).symm;refine⟨_,hle,⟨fun b o v hb=>?_,fun i o hi=>?_,fun i v hi=>?_,fun i v s' hs'=>?_,fun i j o o' s1 s2 hi hj ha ha' e1 e2 hb=>?_,?_,h.bs,h.fact,fun b o hk=>(ho b (h.Oz h6 hk)).trans (h.kp b o hk),h.IK hv (by simp) ho⟩,aA.bF ..,fun j v hj=>aA.qj _ _ _ _ j v hj⟩
 ·rw[aA.uW]at hb
  simp only[aA.jc]at hb;simp only[World.cell?,Option.isSome_none,Bool.false_eq_true,if_false];split at hb
  ·rename_i hx
   obtain⟨rfl,k1,k2⟩:=hx;rw[hh];have:=hus (o-(s.s+n*s.k)) v hb;rwa[show s.s+n*s.k+(o-(s.s+n*s.k))=o from by omega]at this
  ·rename_i hx
   have hc:=h.fz b o v hb
   by_cases hbs:b=s.b
   ·subst hbs
    have hol:o<s.s+n*s.k:=by
     rcases Nat.lt_or_ge o (s.s+n*s.k)with h'|h'
     ·exact h'
     ·rw[h5 o h']at hb;cases hb
    simp only[World.cell?,hv,Option.isSome_none,Bool.false_eq_true,if_false]at hc;rw[hh];exact(hold o hol).trans hc
   ·simp only[World.cell?,Option.isSome_none,Bool.false_eq_true,if_false]at hc
    rw[ho b hbs];exact hc
 ·rcases hget i o hi with⟨rfl,rfl⟩|⟨hne,hi⟩
  ·refine⟨s,vs',aA.bF ..,h00,fun q hq=>?_,hh,hsize.trans h4,fun o hko=>?_,h6⟩
   ·simp only[aA.dW];rw[if_neg (by omega)];exact h2 q (by omega)
   ·rw[aA.uW];simp only[aA.jc];rw[if_neg (by omega)];exact h5 o (by omega)
  ·refine(h.obj i o hi).keep hle (fun v=>aA.dN _ _ _ _ hne) fun ha s' hs'=>?_
   have hb:s'.b≠s.b:=fun e=>hne (h.inj i id o _ s' s hi hid ha rfl hs' hs e)
   exact⟨ho _ hb,fun x=>by rw[aA.uW];exact aA.Jz _ _ _ hb x⟩
 ·have hi':H.length≤i:=by simpa using hi
  rw[aA.dN _ _ _ _ (by omega)];exact h.new i v hi'
 ·rw[hsz]
  simp only[aA.dW]at hs';split at hs'
  ·cases hs';exact h.bnd _ _ _ hs
  ·exact h.bnd i v s' hs'
 ·have key:∀i o s1,(H.set id (.tail (n+m) t))[i]?=some o→o.alive=true→((g.jc s.b (s.s+n*s.k) us).dW id (n+m) s).ob i o.ver=some s1→∃o1,H[i]?=some o1∧o1.alive=true∧g.ob i o1.ver=some s1:=by
   intro i o s1 hi ha e1;rcases hget i o hi with⟨rfl,rfl⟩|⟨hne,hi⟩
   ·simp only[aU.ver]at e1;rw[aA.bF]at e1;cases e1;exact⟨_,hid,rfl,hs⟩
   ·rw[aA.dN _ _ _ _ hne]at e1;exact⟨o,hi,ha,e1⟩
  obtain⟨p,hp,ap,ep⟩:=key i o s1 hi ha e1;obtain⟨q,hq,aq,eq⟩:=key j o' s2 hj ha' e2;exact h.inj i j p q s1 s2 hp hq ap aq ep eq hb
 ·exact h.below.trans ⟨hos,htp,hout,by omega,fun b hb=>ho b (by have:g.base≤s.b:=h6.1;have:b<g.base:=hb;omega)⟩
theorem St.RA (h:St L g w H) {id n t:Nat} (hid:H[id]?=some (.tail n t)) (vs:Array Value) (xs:List au) (k c:Nat) (h0:0<k) (hn:n<xs.length)
  (hk:∀x∈xs,x.cells.length=k) (hc:xs.length≤c) (hz:vs.size=c*k) (hr:aX L g (vs.toList.take (xs.length*k)) (flat xs)):
  ∃g',g.le g'∧St L g' (w.alloc (.cells vs (L.ty t))) (H.set id (.tail xs.length t))∧Rep L g' (.slice (some ⟨w.heap.size,0,none⟩) xs.length c) (.lst xs (.tail id)):=by
 have h1:=h.alloc (.cells vs (L.ty t));have hf:∀o,0≤o→o<0+(vs.toList.take (xs.length*k)).length→g.fz w.heap.size o=none:=fun o _ _=>h.oH o
 have hle1:=aA.nX h.uw hf
 have h2:St L (g.jc w.heap.size 0 (vs.toList.take (xs.length*k))) (w.alloc (.cells vs (L.ty t))) H:=h1.pO h.uw hf (fun j v hv=>by
  rw[nT,Nat.zero_add];rw[List.getElem?_take]at hv;split at hv
  ·simpa using hv
  ·cases hv) h.new_ne
 let s:ko:=⟨w.heap.size,0,vs.size,k⟩
 have hlen:(vs.toList.take (xs.length*k)).length=xs.length*k:=by
  have:xs.length*k≤c*k:=Nat.mul_le_mul_right _ hc;simp;omega
 obtain⟨s0,vs0,e1,e00,e2,e3,e4,e5,e6⟩:=h.obj id _ hid
 have hlt:id<H.length:=by
  rcases Nat.lt_or_ge id H.length with h'|h'
  ·exact h'
  ·rw[List.getElem?_eq_none h']at hid;cases hid
 have hnone:(g.jc w.heap.size 0 (vs.toList.take (xs.length*k))).ob id xs.length=none:=e2 _ hn;have hle2:=aA.jN hnone s;have hle:=hle1.trans hle2
 have hget:∀(i:Nat) (o:aU),(H.set id (.tail xs.length t))[i]?=some o→(i=id∧o=.tail xs.length t)∨(i≠id∧H[i]?=some o):=by
  intro i o hi;rw[List.getElem?_set]at hi;split at hi
  ·rename_i he;subst he;exact .inl ⟨rfl,by first|(rw[if_pos hlt]at hi;exact(Option.some.inj hi).symm)|exact(Option.some.inj hi).symm⟩
  ·rename_i he;exact .inr ⟨fun h=>he h.symm,hi⟩
 refine⟨_,hle,⟨h2.fz,fun i o hi=>?_,fun i v hi=>?_,fun i v s' hs'=>?_,fun i j o o' s1 s2 hi hj ha ha' f1 f2 hb=>?_,h2.below,h.bs,h.fact,h2.kp,h2.dk⟩,?_⟩
 ·rcases hget i o hi with⟨rfl,rfl⟩|⟨hne,hi⟩
  ·refine⟨s,vs,aA.bF ..,rfl,fun q hq=>?_,dG ..,rfl,fun o ho=>?_,h.jG⟩
   ·simp only[aA.dW];rw[if_neg (by omega)];exact e2 q (by omega)
   ·rw[aA.uW]
    simp only[aA.jc];rw[if_neg (by simp only[s]at ho;omega)];exact h.oH o
  ·exact(h2.obj i o hi).keep hle2 (fun v=>aA.dN _ _ _ _ hne) fun _ _ _=>⟨rfl,fun _=>rfl⟩
 ·have hi':H.length≤i:=by simpa using hi
  rw[aA.dN _ _ _ _ (by omega)];exact h.new i v hi'
 ·simp only[aA.dW]at hs'
  split at hs'
  ·cases hs';rw[cO];simp only[s];omega
  ·exact h2.bnd i v s' hs'
 ·have key:∀i o s1,(H.set id (.tail xs.length t))[i]?=some o→((g.jc w.heap.size 0 (vs.toList.take (xs.length*k))).dW id xs.length s).ob i o.ver=some s1→(i=id∧s1=s)∨(i≠id∧H[i]?=some o∧g.ob i o.ver=some s1):=by
   intro i o s1 hi f1;rcases hget i o hi with⟨rfl,rfl⟩|⟨hne,hi⟩
   ·simp only[aU.ver]at f1;rw[aA.bF]at f1;exact .inl ⟨rfl,(Option.some.inj f1).symm⟩
   ·rw[aA.dN _ _ _ _ hne]at f1;exact .inr ⟨hne,hi,f1⟩
  rcases key i o s1 hi f1 with⟨rfl,rfl⟩|⟨_,hp,ep⟩<;>rcases key j o' s2 hj f2 with⟨rfl,rfl⟩|⟨_,hq,eq⟩
  ·rfl
  ·exact absurd hb.symm (h.new_ne j o' s2 hq ha' eq)
  ·exact absurd hb (h.new_ne i o s1 hp ha ep)
  ·exact h.inj i j o o' s1 s2 hp hq ha ha' ep eq hb
 ·refine .lst _ _ k w.heap.size 0 xs (vs.toList.take (xs.length*k)) _ (fun _=>rfl) (fun j v hv=>?_) hk hc ?_ (hr.mono hle)
  ·exact aA.qj _ _ _ _ j v hv
  ·exact⟨s,aA.bF ..,rfl,rfl,by simp only[s];omega,h0,by omega⟩
theorem St.SA (h:St L g w H) (vs:Array Value) (t:Nat) (xs:List au) (k c:Nat) (h0:0<k) (hk:∀x∈xs,x.cells.length=k) (hc:xs.length≤c) (hz:vs.size=c*k)
  (hr:aX L g (vs.toList.take (xs.length*k)) (flat xs)):
  ∃g',g.le g'∧St L g' (w.alloc (.cells vs (L.ty t))) (H ++[.arr xs.length xs t])∧Rep L g' (.slice (some ⟨w.heap.size,0,none⟩) xs.length c) (.vec H.length xs.length k 0 xs.length):=by
 have h1:=h.alloc (.cells vs (L.ty t))
 let s:ko:=⟨w.heap.size,0,vs.size,k⟩
 have hle:g.le (g.dW H.length xs.length s):=aA.jN (h.new _ _ (Nat.le_refl _)) s;have hck:xs.length*k≤c*k:=Nat.mul_le_mul_right _ hc
 obtain⟨k1,k2⟩:=h1.push (b:=w.heap.size) (ob:=.arr xs.length xs t) (s:=s) rfl (by rw[cO];omega) h.new_ne
  ⟨s,vs,aA.bF ..,rfl,fun m hm=>by
    simp only[aA.dW,aU.ver];rw[if_neg (by omega)];exact h.new _ _ (Nat.le_refl _),h0,dG ..,rfl,hk,by simp only[s];omega,hr.mono hle,h.oH,h.jG⟩
 refine⟨_,k1,k2,?_⟩;have:=Rep.vec (L:=L) (g:=g.dW H.length xs.length s) H.length xs.length k 0 xs.length c s (aA.bF ..) rfl hc (by simp only[s];rw[Nat.zero_add];omega);rwa[Nat.zero_mul]at this
theorem St.Yh (h:St L g w H) {id:Nat} (hid:H[id]?=some .dead) (vs:Array Value) (t:Nat) (xs:List au) (k c:Nat) (h0:0<k)
  (hk:∀x∈xs,x.cells.length=k) (hc:xs.length≤c) (hz:vs.size=c*k) (hr:aX L g (vs.toList.take (xs.length*k)) (flat xs)):
  ∃g',g.le g'∧St L g' (w.alloc (.cells vs (L.ty t))) (H.set id (.arr xs.length xs t))∧Rep L g' (.slice (some ⟨w.heap.size,0,none⟩) xs.length c) (.vec id xs.length k 0 xs.length):=by
 have h2:=h.alloc (.cells vs (L.ty t))
 let s:ko:=⟨w.heap.size,0,vs.size,k⟩
 have hck:xs.length*k≤c*k:=Nat.mul_le_mul_right _ hc;have e2:∀v,g.ob id v=none:=h.obj id _ hid
 have hlt:id<H.length:=by
  rcases Nat.lt_or_ge id H.length with h'|h'
  ·exact h'
  ·rw[List.getElem?_eq_none h']at hid;cases hid
 have hle:g.le (g.dW id xs.length s):=aA.jN (e2 _) s
 have hget:∀(i:Nat) (o:aU),(H.set id (.arr xs.length xs t))[i]?=some o→(i=id∧o=.arr xs.length xs t)∨(i≠id∧H[i]?=some o):=by
  intro i o hi;rw[List.getElem?_set]at hi;split at hi
  ·rename_i he;subst he;exact .inl ⟨rfl,by first|(rw[if_pos hlt]at hi;exact(Option.some.inj hi).symm)|exact(Option.some.inj hi).symm⟩
  ·rename_i he;exact .inr ⟨fun h=>he h.symm,hi⟩
 refine⟨_,hle,⟨h2.fz,fun i o hi=>?_,fun i v hi=>?_,fun i v s' hs'=>?_,fun i j o o' s1 s2 hi hj ha ha' f1 f2 hb=>?_,h2.below,h.bs,h.fact,h2.kp,h2.dk⟩,?_⟩
 ·rcases hget i o hi with⟨rfl,rfl⟩|⟨hne,hi⟩
  ·exact⟨s,vs,aA.bF ..,rfl,fun m hm=>by
    simp only[aA.dW];rw[if_neg (by omega)];exact e2 m,h0,dG ..,rfl,hk,by simp only[s];omega,hr.mono hle,h.oH,h.jG⟩
  ·exact(h2.obj i o hi).keep hle (fun v=>aA.dN _ _ _ _ hne) fun _ _ _=>⟨rfl,fun _=>rfl⟩
 ·have hi':H.length≤i:=by simpa using hi
  rw[aA.dN _ _ _ _ (by omega)];exact h.new i v hi'
 ·simp only[aA.dW]at hs'
  split at hs'
  ·cases hs';rw[cO];simp only[s];omega
  ·exact h2.bnd i v s' hs'
 ·have key:∀i o s1,(H.set id (.arr xs.length xs t))[i]?=some o→(g.dW id xs.length s).ob i o.ver=some s1→(i=id∧s1=s)∨(i≠id∧H[i]?=some o∧g.ob i o.ver=some s1):=by
   intro i o s1 hi f1;rcases hget i o hi with⟨rfl,rfl⟩|⟨hne,hi⟩
   ·simp only[aU.ver]at f1;rw[aA.bF]at f1;exact .inl ⟨rfl,(Option.some.inj f1).symm⟩
   ·rw[aA.dN _ _ _ _ hne]at f1;exact .inr ⟨hne,hi,f1⟩
  rcases key i o s1 hi f1 with⟨rfl,rfl⟩|⟨_,hp,ep⟩<;>rcases key j o' s2 hj f2 with⟨rfl,rfl⟩|⟨_,hq,eq⟩
  ·rfl
  ·exact absurd hb.symm (h.new_ne j o' s2 hq ha' eq)
  ·exact absurd hb (h.new_ne i o s1 hp ha ep)
  ·exact h.inj i j o o' s1 s2 hp hq ha ha' ep eq hb
 ·have:=Rep.vec (L:=L) (g:=g.dW id xs.length s) id xs.length k 0 xs.length c s (aA.bF ..) rfl hc (by simp only[s];rw[Nat.zero_add];omega)
  rwa[Nat.zero_mul]at this
theorem St.Ui (h:St L g w H) {id:Nat} (hid:H[id]?=some .dead) (vs:Array Value) (t:Nat) (xs:List au) (k c:Nat) (h0:0<k) (hn:0<xs.length)
  (hk:∀x∈xs,x.cells.length=k) (hc:xs.length≤c) (hz:vs.size=c*k) (hr:aX L g (vs.toList.take (xs.length*k)) (flat xs)):
  ∃g',g.le g'∧St L g' (w.alloc (.cells vs (L.ty t))) (H.set id (.tail xs.length t))∧Rep L g' (.slice (some ⟨w.heap.size,0,none⟩) xs.length c) (.lst xs (.tail id)):=by
 have h1:=h.alloc (.cells vs (L.ty t));have hf:∀o,0≤o→o<0+(vs.toList.take (xs.length*k)).length→g.fz w.heap.size o=none:=fun o _ _=>h.oH o
 have hle1:=aA.nX h.uw hf
 have h2:St L (g.jc w.heap.size 0 (vs.toList.take (xs.length*k))) (w.alloc (.cells vs (L.ty t))) H:=h1.pO h.uw hf (fun j v hv=>by
  rw[nT,Nat.zero_add];rw[List.getElem?_take]at hv;split at hv
  ·simpa using hv
  ·cases hv) h.new_ne
 let s:ko:=⟨w.heap.size,0,vs.size,k⟩
 have hlen:(vs.toList.take (xs.length*k)).length=xs.length*k:=by
  have:xs.length*k≤c*k:=Nat.mul_le_mul_right _ hc;simp;omega
 have e2:∀v,g.ob id v=none:=h.obj id _ hid
 have hlt:id<H.length:=by
  rcases Nat.lt_or_ge id H.length with h'|h'
  ·exact h'
  ·rw[List.getElem?_eq_none h']at hid;cases hid
 have hnone:(g.jc w.heap.size 0 (vs.toList.take (xs.length*k))).ob id xs.length=none:=e2 _;have hle2:=aA.jN hnone s;have hle:=hle1.trans hle2
 have hget:∀(i:Nat) (o:aU),(H.set id (.tail xs.length t))[i]?=some o→(i=id∧o=.tail xs.length t)∨(i≠id∧H[i]?=some o):=by
  intro i o hi;rw[List.getElem?_set]at hi;split at hi
  ·rename_i he;subst he;exact .inl ⟨rfl,by first|(rw[if_pos hlt]at hi;exact(Option.some.inj hi).symm)|exact(Option.some.inj hi).symm⟩
  ·rename_i he;exact .inr ⟨fun h=>he h.symm,hi⟩
 refine⟨_,hle,⟨h2.fz,fun i o hi=>?_,fun i v hi=>?_,fun i v s' hs'=>?_,fun i j o o' s1 s2 hi hj ha ha' f1 f2 hb=>?_,h2.below,h.bs,h.fact,h2.kp,h2.dk⟩,?_⟩
 ·rcases hget i o hi with⟨rfl,rfl⟩|⟨hne,hi⟩
  ·refine⟨s,vs,aA.bF ..,rfl,fun q hq=>?_,dG ..,rfl,fun o ho=>?_,h.jG⟩
   ·simp only[aA.dW];rw[if_neg (by omega)];exact e2 q
   ·rw[aA.uW]
    simp only[aA.jc];rw[if_neg (by simp only[s]at ho;omega)];exact h.oH o
  ·exact(h2.obj i o hi).keep hle2 (fun v=>aA.dN _ _ _ _ hne) fun _ _ _=>⟨rfl,fun _=>rfl⟩
 ·have hi':H.length≤i:=by simpa using hi
  rw[aA.dN _ _ _ _ (by omega)];exact h.new i v hi'
 ·simp only[aA.dW]at hs'
  split at hs'
  ·cases hs';rw[cO];simp only[s];omega
  ·exact h2.bnd i v s' hs'
 ·have key:∀i o s1,(H.set id (.tail xs.length t))[i]?=some o→((g.jc w.heap.size 0 (vs.toList.take (xs.length*k))).dW id xs.length s).ob i o.ver=some s1→(i=id∧s1=s)∨(i≠id∧H[i]?=some o∧g.ob i o.ver=some s1):=by
   intro i o s1 hi f1;rcases hget i o hi with⟨rfl,rfl⟩|⟨hne,hi⟩
   ·simp only[aU.ver]at f1;rw[aA.bF]at f1;exact .inl ⟨rfl,(Option.some.inj f1).symm⟩
   ·rw[aA.dN _ _ _ _ hne]at f1;exact .inr ⟨hne,hi,f1⟩
  rcases key i o s1 hi f1 with⟨rfl,rfl⟩|⟨_,hp,ep⟩<;>rcases key j o' s2 hj f2 with⟨rfl,rfl⟩|⟨_,hq,eq⟩
  ·rfl
  ·exact absurd hb.symm (h.new_ne j o' s2 hq ha' eq)
  ·exact absurd hb (h.new_ne i o s1 hp ha ep)
  ·exact h.inj i j o o' s1 s2 hp hq ha ha' ep eq hb
 ·refine .lst _ _ k w.heap.size 0 xs (vs.toList.take (xs.length*k)) _ (fun _=>rfl) (fun j v hv=>?_) hk hc ?_ (hr.mono hle)
  ·exact aA.qj _ _ _ _ j v hv
  ·exact⟨s,aA.bF ..,rfl,rfl,by simp only[s];omega,h0,by omega⟩
theorem St.L8 (h:St L g w H) {id:Nat} {o o':aU} {s0 s1:ko} (hid:H[id]?=some o) (ha:o.alive=true) (h0:g.ob id o.ver=some s0) (hle:g.le g') (hfz:g'.fz=g.fz) (hdk:g'.dk=g.dk)
  (hw0:g'.w0=g.w0) (hob:∀i v,i≠id→g'.ob i v=g.ob i v) (hsp:∀v s,g'.ob id v=some s→g.ob id v=some s∨s=s1) (h1:o'.alive=true→g'.ob id o'.ver=some s1)
  (hs1:s1.b=s0.b∨s1.b=w.heap.size) (hl1:s1.b<w'.heap.size) (hf0:∀x,g.fz s0.b x=none) (hnd:w.heap[s0.b]?≠some (.deferred (some [])))
  (hh:∀b,b≠s0.b→b<w.heap.size→w'.heap[b]?=w.heap[b]?) (hsz:w.heap.size≤w'.heap.size) (hos:w'.os=w.os) (htp:w'.tape=w.tape) (hout:w'.output=w.output)
  (hok:kN L g' w' id o'):St L g' w' (H.set id o'):=by
 have hown0:g.own s0.b:=by
  obtain⟨s,k1,k2⟩:=(h.obj id o hid).place ha;rw[h0]at k1;cases k1;exact k2
 have hlt:id<H.length:=by
  rcases Nat.lt_or_ge id H.length with h'|h'
  ·exact h'
  ·rw[List.getElem?_eq_none h']at hid;cases hid
 have hget:∀(i:Nat) (p:aU),(H.set id o')[i]?=some p→(i=id∧p=o')∨(i≠id∧H[i]?=some p):=by
  intro i p hi;rw[List.getElem?_set]at hi;split at hi
  ·rename_i he;subst he;exact .inl ⟨rfl,by first|(rw[if_pos hlt]at hi;exact(Option.some.inj hi).symm)|exact(Option.some.inj hi).symm⟩
  ·rename_i he;exact .inr ⟨fun h=>he h.symm,hi⟩
 refine⟨fun b x v hb=>?_,fun i p hi=>?_,fun i v hi=>?_,fun i v s hs=>?_,fun i j p q s s' hi hj hp hq e1 e2 hb=>?_,?_,?_,?_,fun b p hb=>?_,fun b hb=>?_⟩
 ·rw[hfz]at hb
  have hne:b≠s0.b:=fun e=>by subst e;rw[hf0]at hb;cases hb
  have hc:=h.fz b x v hb;simp only[World.cell?]at hc⊢;rw[hh b hne (h.Gd hb)];exact hc
 ·rcases hget i p hi with⟨rfl,rfl⟩|⟨hne,hi⟩
  ·exact hok
  ·refine(h.obj i p hi).keep hle (fun v=>hob i v hne) fun hp s hs=>⟨hh _ (fun e=>hne (h.inj i id p o s s0 hi hid hp ha hs h0 e)) (h.bnd _ _ _ hs),fun x=>by rw[hfz]⟩
 ·have hi':H.length≤i:=by simpa using hi
  rw[hob i v (by omega)];exact h.new i v hi'
 ·by_cases hne:i=id
  ·subst hne
   rcases hsp v s hs with k|rfl
   ·exact Nat.lt_of_lt_of_le (h.bnd _ _ _ k) hsz
   ·exact hl1
  ·rw[hob i v hne]at hs;exact Nat.lt_of_lt_of_le (h.bnd _ _ _ hs) hsz
 ·rcases hget i p hi with⟨rfl,rfl⟩|⟨hne,hi2⟩<;>rcases hget j q hj with⟨rfl,rfl⟩|⟨hne',hj2⟩
  ·rfl
  ·rw[h1 hp]at e1;cases e1
   rw[hob j _ hne']at e2;rcases hs1 with k|k
   ·exact(h.inj j i q o s' s0 hj2 hid hq ha e2 h0 (hb.symm.trans k)).symm
   ·have:=h.bnd _ _ _ e2;omega
  ·rw[h1 hq]at e2;cases e2
   rw[hob i _ hne]at e1;rcases hs1 with k|k
   ·exact h.inj i j p o s s0 hi2 hid hp ha e1 h0 (hb.trans k)
   ·have:=h.bnd _ _ _ e1;omega
  ·rw[hob i _ hne]at e1;rw[hob j _ hne']at e2
   exact h.inj i j p q s s' hi2 hj2 hp hq e1 e2 hb
 ·rw[hle.base,hw0]
  exact h.below.trans ⟨hos,htp,hout,by have:=h.wQ;omega,fun b hb=>hh b (by have:=hown0.1;omega) (Nat.lt_of_lt_of_le hb h.wQ)⟩
 ·rw[hle.base,hw0];exact h.bs
 ·rw[hle.base,hw0];exact h.fact
 ·rw[hle.kp]at hb
  exact(hh b (h.Oz hown0 hb) (h.OA hb)).trans (h.kp b p hb)
 ·rw[hdk]at hb
  exact(hh b (fun e=>hnd (by subst e;exact h.dk _ hb)) (h.Gl hb)).trans (h.dk b hb)
theorem St.IE (h:St L g w H) {b:Nat} (hc:∀x,w.cell? ⟨b,x,none⟩=none):∀x,g.fz b x=none:=fun x=>by
 cases hf:g.fz b x with
 |none=>rfl
 |some v=>have:=h.fz b x v hf;rw[hc x]at this;cases this
theorem o7 (w:World) {b:Nat} {o o':Obj} (h:w.heap[b]?=some o):(w.putObj b o').heap[b]?=some o'∧(∀k,k≠b→(w.putObj b o').heap[k]?=w.heap[k]?)∧(w.putObj b o').heap.size=w.heap.size:=by
 have hlt:b<w.heap.size:=by
  rcases Nat.lt_or_ge b w.heap.size with h'|h'
  ·exact h'
  ·rw[Array.getElem?_eq_none h']at h;cases h
 exact⟨World.putObj_heap_same hlt,fun k hk=>World.putObj_heap_other hk,World.putObj_size⟩
theorem kN.Ou {id:Nat} {o:aU} (h:kN L g w id o) (ha:o.alive=true) {s:ko} (hs:g.ob id o.ver=some s):w.heap[s.b]?≠some (.deferred (some [])):=by
 cases o with
 |dead=>cases ha
 |gone=>cases ha
 |cells cs t=>obtain⟨s',_,h1,_,h3,_⟩:=h;cases(show some s=some s' from hs.symm.trans h1);rw[h3];simp
 |tail n t=>obtain⟨s',_,h1,_,_,h3,_⟩:=h;cases(show some s=some s' from hs.symm.trans h1);rw[h3];simp
 |arr v xs t=>obtain⟨s',_,h1,_,_,_,h3,_⟩:=h;cases(show some s=some s' from hs.symm.trans h1);rw[h3];simp
 |map es c=>obtain⟨s',_,h1,h3,_⟩:=h;cases(show some s=some s' from hs.symm.trans h1);rw[h3];simp
 |iJ m since seen last=>
  obtain⟨s',h1,_,h3⟩:=h;cases(show some s=some s' from hs.symm.trans h1)
  cases m with
  |none=>rw[h3];simp
  |some mid=>obtain⟨_,_,h3⟩:=h3;rw[h3];simp
 |loop r st=>obtain⟨s',h1,h3,_⟩:=h;cases(show some s=some s' from hs.symm.trans h1);rw[h3];simp
def aA.xL (g:aA) (b:Nat):aA:={g with dk:=fun b'=>if b'=b then false else g.dk b'}
def aA.mark (g:aA) (b:Nat):aA:={g with dk:=fun b'=>if b'=b then true else g.dk b'}
theorem aA.Wz (g:aA) (b:Nat):g.le (g.mark b):=⟨rfl,rfl,fun _ _ _ h=>h,fun _ _ _ h=>h,rfl,fun _ _ _=>rfl,fun b' h=>by simp[aA.mark,h]⟩
theorem aA.Qx {g0 g:aA} (h:g0.le g) {b:Nat} (hb:g0.dk b=false):g0.le (g.xL b):=
 ⟨h.w0,h.base,h.fz,h.ob,h.kp,h.fzk,fun b' hd=>by
  simp only[aA.xL];rw[if_neg (fun e=>by subst e;rw[hb]at hd;cases hd)]
  exact h.dk b' hd⟩
theorem St.WA (h:St L g w H):St L (g.mark w.heap.size) (w.alloc (.deferred (some []))) H:=by
 have h1:=h.alloc (.deferred (some []));refine⟨h1.fz,fun id o ho=>(h1.obj id o ho).SY (fun _ _ _ h=>h) (fun _ _ _ h=>h) (fun _ h=>h) (fun _=>rfl) (fun _ _ _=>⟨rfl,fun _=>rfl⟩),h1.new,h1.bnd,h1.inj,h1.below,h1.bs,h1.fact,h1.kp,fun b hb=>?_⟩;simp only[aA.mark]at hb;split at hb
 ·rename_i e;subst e;exact dG ..
 ·exact h1.dk b hb
theorem St.SE (h:St L g w H) {b:Nat} (hb:g.dk b=true) (hkb:g.kp b=none) (hbase:g.base≤b):St L (g.xL b) (w.putObj b (.deferred none)) H:=by
 have hd:=h.dk b hb;obtain⟨p1,p2,p3⟩:=o7 w (o':=.deferred none) hd
 have hne:∀id o s,H[id]?=some o→o.alive=true→g.ob id o.ver=some s→s.b≠b:=fun id o s ho ha hs e=>by
  have:=(h.obj id o ho).Ou ha hs;exact this (by rw[e];exact hd)
 refine⟨fun b' o v hv=>?_,fun id o ho=>(h.obj id o ho).SY (fun _ _ _ h=>h) (fun _ _ _ h=>h) (fun _ h=>h) (fun _=>rfl) (fun ha s hs=>⟨p2 _ (hne id o s ho ha hs),fun _=>rfl⟩),h.new,fun id v s hs=>by rw[p3];exact h.bnd _ _ _ hs,h.inj,?_,h.bs,h.fact,fun b' o hk=>?_,fun b' hd'=>?_⟩
 ·have hc:=h.fz b' o v hv
  have hn:b'≠b:=fun e=>by rw[e]at hc;simp[World.cell?,hd]at hc
  simp only[World.cell?]at hc⊢;rw[p2 b' hn];exact hc
 ·exact h.below.trans ⟨rfl,rfl,rfl,by rw[p3];have:=h.wQ;omega,fun b' hb'=>p2 b' (by have:b'<g.base:=hb';omega)⟩
 ·have hk:g.kp b'=some o:=hk
  have hn:b'≠b:=fun e=>by rw[e,hkb]at hk;cases hk
  rw[p2 b' hn];exact h.kp b' o hk
 ·simp only[aA.xL]at hd'
  split at hd'
  ·cases hd'
  ·rename_i hn;rw[p2 b' hn];exact h.dk b' hd'
theorem St.Sn (h:St L g w H):St L g w (H ++[.dead]):=by
 have hlt:∀(i:Nat) (o:aU),H[i]?=some o→i<H.length:=fun i o hi=>by
  rcases Nat.lt_or_ge i H.length with h'|h'
  ·exact h'
  ·rw[List.getElem?_eq_none h']at hi;cases hi
 have hget:∀(i:Nat) (o:aU),(H ++[aU.dead])[i]?=some o→H[i]?=some o∨(i=H.length∧o=.dead):=by
  intro i o hi;rcases Nat.lt_trichotomy i H.length with h'|h'|h'
  ·rw[List.getElem?_append_left h']at hi;exact .inl hi
  ·subst h';simp at hi;exact .inr ⟨rfl,hi.symm⟩
  ·rw[List.getElem?_eq_none (by simp;omega)]at hi;cases hi
 refine⟨h.fz,fun id o ho=>?_,fun id v hv=>h.new id v (by simp at hv;omega),h.bnd,fun i j o o' s1 s2 hi hj ha ha' h1 h2 hb=>?_,h.below,h.bs,h.fact,h.kp,h.dk⟩
 ·rcases hget id o ho with ho|⟨rfl,rfl⟩
  ·exact h.obj id o ho
  ·exact fun v=>h.new _ v (Nat.le_refl _)
 ·rcases hget i o hi with hi'|⟨rfl,rfl⟩
  ·rcases hget j o' hj with hj'|⟨rfl,rfl⟩
   ·exact h.inj i j o o' s1 s2 hi' hj' ha ha' h1 h2 hb
   ·cases ha'
  ·cases ha
end Go.Ag
/- From the machine's code to abstract code: a function that looks types and functions up, and refuses what it doesn't know. -/
namespace Go.Ag
open Go
structure Tab where
 L : Lnk
 fg : Nat → Nat
 tg : Nat → Nat
 /-- Are slices of bytes that are turned into text arrays that have been written? -/
 am : Bool := false
 /-- Are late operations that disturb nobody taken in one order? -/
 rd : Bool := false
 /-- Are literals of slices rows that may be written? -/
 lv : Bool := false
def Lr :Value→Option au
 |.bool b=>some (.bool b)
 |.int k n=>some (.int k n)
 |.string s=>some (.str s.data.toList)
 |.pointer none=>some .eD
 |.slice none 0 0=>some (.lst [] .nil)
 |.map none=>some .gW
 |.nilFunc=>some .lM
 |.nilIface=>some .eT
 |_=>none
def qB :List Value→Option (List au)
 |[]=>some []
 |v::vs=>match Lr v,qB vs with
  |some x,some xs=>some (x::xs)
  |_,_=>none
def cVal :Value→Option au
 |.agg cs=>(qB cs.toList).map .agg
 |v=>Lr v
def Tab.fn (T:Tab) (f:Nat):Option Nat:=
 if T.L.num (T.fg f)=f then match T.L.P.funcs[f]? with
  |some fn=>if fn.body.isSome&& !(fn.name== "runtime.NumGoroutine")then some (T.fg f)else none
  |none=>none
 else none
def Tab.ty (T:Tab) (t:Nat):Option Nat:=if T.L.ty (T.tg t)=t then some (T.tg t)else none
def cX (T:Tab):Operand→Option AX
 |.tmp t=>some (.tmp t)
 |.const v=>(cVal v).map .const
 |.func f=>(T.fn f).map fun g=>.const (.fn (.func g) [] [])
 |.global _=>none
def cXs (T:Tab):List Operand→Option (List AX)
 |[]=>some []
 |x::xs=>match cX T x,cXs T xs with
  |some a,some abJ=>some (a::abJ)
  |_,_=>none
def cXo (T:Tab):Option Operand→Option (Option AX)
 |none=>some none
 |some x=>(cX T x).map some
def Tab.agg (T:Tab) (t:Nat):Option (Option Nat):=
 match T.L.P.underlying t,T.L.P.info? t with
 |some (.struct _),some i=>some (some i.size)
 |some (.array _ _),some i=>some (some i.size)
 |some _,some _=>some none
 |_,_=>none
def Tab.places (T:Tab) (fs:List Field):Option (List (Nat×Nat)):=fs.mapM fun f=>(T.L.P.info? f.type).map fun i=>(f.offset,i.size)
def Ev (T:Tab) (places:List (Nat×Nat)):List (Nat×Operand)→Option (List (Nat×Nat×AX))
 |[]=>some []
 |(i,x)::ps=>match places[i]?,cX T x,Ev T places ps with
  |some f,some a,some abJ=>some ((f.1,f.2,a)::abJ)
  |_,_,_=>none
def Av (T:Tab):Nat→List (Nat×Operand)→Option (List (Nat×AX))
 |_,[]=>some []
 |n,(i,x)::ps=>if i=n then match cX T x,Av T (n+1) ps with
   |some a,some abJ=>some ((i,a)::abJ)
   |_,_=>none
  else none
def Ov (T:Tab) (t:Nat):Operand→Option Nat
 |.const .nilIface=>match T.L.P.underlying t with|some (.interface _)=>some 0|_=>none
 |.const .nilFunc=>match T.L.P.underlying t with|some (.func _ _ _)=>some 1|_=>none
 |.const (.pointer none)=>match T.L.P.underlying t with|some (.pointer _)=>some 2|_=>none
 |.const (.slice none 0 0)=>match T.L.P.underlying t with|some (.slice _)=>some 3|_=>none
 |.const (.map none)=>match T.L.P.underlying t with|some (.map _ _)=>some 4|_=>none
 |_=>none
def nZ (T:Tab):Nat→List Field→Option (List Nat)
 |_,[]=>some []
 |n,f::fs=>if f.offset=n∧f.name≠ "_" then match T.L.P.underlying f.type,nZ T (n+1) fs with
   |some (.int _),some ks=>some (0::ks)
   |some .string,some ks=>some (1::ks)
   |some .bool,some ks=>some (2::ks)
   |_,_=>none
  else none
def DT :BinOp→Bool
 |.neq=>true
 |_=>false
def cEq (T:Tab) (op:BinOp) (t:Nat) (x y:Operand):Option AOp:=
 if op=.eql∨op=.neq then match Ov T t y with
  |some k=>(cX T x).map (.eqNil k (DT op))
  |none=>match cX T x,cX T y with
   |some ax,some ay=>match T.L.P.underlying t with
    |some .bool=>some (.qz (DT op) ax ay)
    |some (.struct fs)=>if T.L.P.stoodInHeld t=false∧T.L.P.eqGuardType T.L.P.depth t=false then(nZ T 0 fs.toList).map fun ks=>.bT ks (DT op) ax ay else none
    |_=>none
   |_,_=>none
 else none
def Pq (T:Tab) (t:Nat) (s x:AX):Option AOp:=
 match T.L.P.underlying t with
 |some (.slice e)=>match T.L.P.info? e,T.ty e with
  |some i,some te=>match i.zero with
   |some z=>if z.cells.size=i.size∧0<i.size∧0<i.bytes then some (.append i.size i.bytes te s x)else none
   |none=>none
  |_,_=>none
 |_=>none
def Lu (T:Tab) (t u:Nat) (s x:AX):Option AOp:=
 match T.L.P.underlying t,T.L.P.underlying u with
 |some (.slice e),some .string=>match T.L.P.info? e,T.ty e with
  |some i,some te=>match i.zero with
   |some z=>if z.cells.size=i.size∧i.size=1∧0<i.bytes then some (.jY i.bytes te s x)else none
   |none=>none
  |_,_=>none
 |_,_=>none
def y8 (T:Tab) (t:Nat):Option Nat:=match T.L.P.underlying t with
 |some (.int _)=>some 0
 |some .string=>some 1
 |some .bool=>some 2
 |_=>none
def cOp (T:Tab) (o:Oper):Option AOp:=
 match o.op with
 |.move x=>(cX T x).map .mv
 |.assign x=>(cX T x).map .mv
 |.pick c a b=>match cX T c,cX T a,cX T b with
  |some c,some a,some b=>some (.pick c a b)
  |_,_,_=>none
 |.alloc t=>match T.L.P.info? t,T.ty t with
  |some i,some tt=>match i.zero with
   |some z=>(qB z.cells.toList).map fun zs=>.alloc zs tt
   |none=>none
  |_,_=>none
 |.box t x=>match T.ty t,cX T x with
  |some tt,some x=>some (.box tt x)
  |_,_=>none
 |.build t ps=>match T.L.P.underlying t,T.L.P.info? t with
  |some (.struct fs),some i=>match i.zero with
   |some z=>match qB z.cells.toList,T.places fs.toList with
    |some zs,some places=>(Ev T places ps.toList).map (.build zs)
    |_,_=>none
   |none=>none
  |_,_=>none
 |.buildSlice t n ps=>match T.L.P.underlying t with
  |some (.slice e)=>match T.L.P.info? e with
   |some i=>match i.zero,Av T 0 ps.toList with
    |some z,some abJ=>if abJ.length=n∧n*i.size≤2^24∧z.cells.size=i.size∧0<i.size then
      if T.lv=true then
       match T.ty e with
       |some tt=>if 0<n then some (.Ik i.size tt abJ)else none
       |none=>none
      else some (.lit i.size i.bytes [] n abJ)
     else none
    |_,_=>none
   |none=>none
  |_=>none
 |.load t a=>match T.agg t,cX T a with
  |some k,some a=>some (.load k a)
  |_,_=>none
 |.store t a x=>match T.L.P.info? t,cX T a,cX T x with
  |some i,some a,some x=>some (.store i.size a x)
  |_,_,_=>none
 |.nilCheck x=>(cX T x).map .aJ
 |.binOp op t x y _=>match cEq T op t x y with
  |some q=>some q
  |none=>match cX T x,cX T y with
   |some x,some y=>some (.bin op x y)
   |_,_=>none
 |.unOp op _ x=>(cX T x).map (.un op)
 |.convert s d x=>match T.L.P.underlying s,T.L.P.underlying d,cX T x with
  |some _,some (.int k),some x=>some (.pz k x)
  |some (.slice e),some .string,some x=>match T.L.P.underlying e with
   |some (.int .u8)=>if T.am=true then some (.pE x)else some (.zu x)
   |_=>none
  |some _,some .string,some x=>some (.wN x)
  |_,_,_=>none
 |.makeInterface t x=>match T.L.P.underlying t,T.ty t,cX T x with
  |some (.interface _),_,_=>none
  |some _,some t,some x=>some (.mkI t x)
  |_,_,_=>none
 |.makeFunc (.func f) fi ca=>match T.fn f,cXs T fi.toList,cXs T ca.toList with
  |some g,some fi,some ca=>some (.mkF (.func g) fi ca)
  |_,_,_=>none
 |.slice t x lo hi none=>match T.L.P.underlying t,cX T x,cXo T lo,cXo T hi with
  |some .string,some x,some lo,some hi=>some (.wW x lo hi)
  |some (.slice e),some x,some lo,some hi=>(T.L.P.info? e).map fun i=>.yK i.size x lo hi
  |_,_,_,_=>none
 |.fieldAddr t x f=>match T.L.P.underlying t,cX T x with
  |some (.struct fs),some x=>match fs[f]? with
   |some fd=>match T.L.P.info? fd.type with
    |some i=>if i.size=0 then none else some (.aB fd.offset x)
    |none=>none
   |none=>none
  |_,_=>none
 |.field t x f=>match T.L.P.underlying t,cX T x with
  |some (.struct fs),some x=>match fs[f]? with
   |some fd=>(T.agg fd.type).map fun k=>.fld fd.offset k x
   |none=>none
  |_,_=>none
 |.makeSlice t (.tmp i) (.tmp j)=>if i=j then match T.L.P.underlying t with
   |some (.slice e)=>match T.L.P.info? e,T.ty e with
    |some inf,some te=>match inf.zero with
     |some z=>if inf.size=1∧inf.bytes≤256∧z.cells.size=1 then match qB z.cells.toList with
       |some [v]=>some (.make v te (.tmp i))
       |_=>none
      else none
     |none=>none
    |_,_=>none
   |_=>none
  else none
 |.makeMap t none=>match T.L.P.underlying t with
  |some (.map _ _)=>some .mkMap
  |_=>none
 |.lookup t x i ok=>match T.L.P.underlying t,cX T x,cX T i with
  |some (.map kt et),some m,some k=>match y8 T kt,T.L.P.info? et with
   |some kk,some inf=>match inf.zero with
    |some z=>(cVal z).map fun zv=>.look kk zv ok m k
    |none=>none
   |_,_=>none
  |_,_,_=>none
 |.mapUpdate t x i v=>match T.L.P.underlying t,cX T x,cX T i,cX T v with
  |some (.map kt _),some m,some k,some v=>(y8 T kt).map fun kk=>.ug kk m k v
  |_,_,_,_=>none
 |.range t x=>match T.L.P.underlying t,cX T x with
  |some (.map _ _),some m=>some (.rO m)
  |_,_=>none
 |.next it false=>(cX T it).map .vC
 |.entry it=>(cX T it).map .oG
 |.indexAddr t x i=>match T.L.P.underlying t,cX T x,cX T i with
  |some (.slice e),some x,some i=>(T.L.P.info? e).map fun inf=>.aV inf.size x i
  |_,_,_=>none
 |.index t x i=>match T.L.P.underlying t,cX T x,cX T i with
  |some .string,some x,some i=>some (.zf x i)
  |_,_,_=>none
 |.extract x i=>(cX T x).map fun x=>.ext x i
 |.call {callee:=.value (.func f),args,..}=>match T.fn f,cXs T args.toList with
  |some g,some abJ=>some (.call g abJ)
  |_,_=>none
 |.call {callee:=.value (.tmp t),args,..}=>(cXs T args.toList).map fun abJ=>.fJ (.tmp t) abJ
 |.call {callee:=.builtin .len,args,argTypes}=>match argTypes.toList,args.toList with
  |[t],[x]=>match T.L.P.underlying t,cX T x with
   |some .string,some x=>some (.qx x)
   |some (.slice _),some x=>some (.jo x)
   |some (.map _ _),some x=>some (.uo x)
   |_,_=>none
  |_,_=>none
 |.call {callee:=.builtin .clear,args,argTypes}=>match argTypes.toList,args.toList with
  |[t],[x]=>match T.L.P.underlying t,cX T x with
   |some (.slice el),some x=>match T.L.P.info? el with
    |some inf=>match inf.zero with
     |some z=>if z.cells.size=inf.size∧0<inf.size then match cVal z with
      |some zv=>if(zv.cells.length==inf.size&&zv.cells.all uJ)=true then some (.clr inf.size zv x)else none
      |none=>none
      else none
     |none=>none
    |none=>none
   |_,_=>none
  |_,_=>none
 |.call {callee:=.builtin .append,args,argTypes}=>match argTypes.toList,args.toList with
  |[t,u],[s,x]=>match cX T s,cX T x with
   |some s,some x=>if t=u then Pq T t s x else Lu T t u s x
   |_,_=>none
  |_,_=>none
 |.call {callee:=.builtin .unsafeSliceData,args,..}=>match args.toList with
  |[x]=>(cX T x).map .ssd
  |_=>none
 |.call {callee:=.builtin .unsafeString,args,argTypes}=>match argTypes.toList,args.toList with
  |[pt,_],[p,n]=>match T.L.P.underlying pt,cX T p,cX T n with
   |some (.pointer e),some p,some n=>if T.L.P.cellsOf e=1 then(T.ty e).map fun te=>.GR te p n else none
   |_,_,_=>none
  |_,_=>none
 |.panic x=>(cX T x).map .panic
 |_=>none
def OT (n:Nat):Option Nat→Bool
 |some d=>decide (d<n)
 |none=>true
def BG (T:Tab) (n:Nat) (ops:Array Oper) (o:Oper):Option AO:=
 match cOp T o with
 |none=>none
 |some q=>if OT n o.dst=true then match o.guard with
  |none=>some {dst:=o.dst,op:=q}
  |some (j,want)=>match ops[j]? with
   |some oj=>match oj.dst with
    |some t=>some {dst:=o.dst,op:=q,guard:=some (t,want)}
    |none=>none
   |none=>none
  else none
def qC (T:Tab) (n:Nat) (ops:Array Oper):List Oper→Option (List AO)
 |[]=>some []
 |o::os=>match BG T n ops o,qC T n ops os with
  |some a,some abJ=>some (a::abJ)
  |_,_=>none
def masks :List Oper→List Nat→List Nat
 |[],acc=>acc
 |o::os,acc=>masks os (acc ++[(o.after.toList.filter fun e=>Region.binds .any e).foldl (fun m e=>(m|||1<<<e.on)|||acc.getD e.on 0) 0])
def waits (M:List Nat) (j i:Nat):Bool:=(M.getD j 0).testBit i
def AX.slots :AX→List Nat
 |.tmp t=>[t]
 |.const _=>[]
def AOp.xs :AOp→List AX
 |.alloc _ _|.mkMap=>[]
 |.look _ _ _ m k=>[m,k]
 |.ug _ m k v=>[m,k,v]
 |.uo x|.rO x|.vC x|.oG x
 |.clr _ _ x|.mv x|.box _ x|.ssd x|.aJ x|.un _ x|.pz _ x|.wN x|.zu x|.pE x|.make _ _ x|.eqNil _ _ x|.mkI _ x|.aB _ x|.fld _ _ x|.ext x _|.qx x|.jo x|.panic x|.load _ x=>[x]
 |.pick c a b=>[c,a,b]
 |.build _ ps=>ps.map (·.2.2)
 |.lit _ _ _ _ ps=>ps.map (·.2)
 |.Ik _ _ ps=>ps.map (·.2)
 |.store _ a x=>[a,x]
 |.bin _ x y|.qz _ x y|.bT _ _ x y|.aV _ x y|.zf x y|.append _ _ _ x y|.jY _ _ x y|.GR _ x y=>[x,y]
 |.mkF _ fi ca=>fi ++ca
 |.wW x lo hi|.yK _ x lo hi=>x::(lo.toList ++hi.toList)
 |.call _ abJ=>abJ
 |.fJ f abJ=>f::abJ
def AO.looks (o:AO):List Nat:=o.op.xs.flatMap AX.slots ++(match o.guard with|some (t,_)=>[t]|none=>[])
def xS (M : List Nat) (i j : Nat) (oi oj : AO) : Bool :=
  (match oi.dst with
   | some d => (!(oj.looks).contains d && oj.dst != some d) || waits M j i
   | none => true) &&
  (match oj.dst with
   | some d => !(oi.looks).contains d || waits M j i
   | none => true)
def makes (o:Oper) (ao:AO):Bool:=
 match ao.op with
 |.alloc _ _=>match o.op with|.alloc _=>true|_=>false
 |.box _ _=>match o.op with|.box _ _=>true|_=>false
 |_=>true
def dX :AOp→Bool
 |.alloc _ _|.box _ _|.load _ _|.call _ _|.fJ _ _|.store _ _ _|.append _ _ _ _ _|.jY _ _ _ _|.GR _ _ _|.panic _|.pE _|.make _ _ _|.mkMap|.look _ _ _ _ _|.ug _ _ _ _|.uo _|.rO _|.vC _|.oG _|.clr _ _ _|.Ik _ _ _=>false
 |_=>true
def DR :AOp→Bool
 |.alloc _ _|.box _ _=>true
 |_=>false
def Iu :AOp→Bool
 |.alloc _ _|.box _ _|.load _ _|.append _ _ _ _ _|.jY _ _ _ _|.look _ _ _ _ _|.uo _|.mkMap|.oG _=>true
 |q=>dX q
def Td :AOp→Bool
 |.call _ _|.fJ _ _=>true
 |_=>false
def Cb :AOp→Bool
 |.look _ _ _ _ _|.uo _=>true
 |q=>dX q
def M8 :AOp→Bool
 |.call _ _|.fJ _ _|.store _ _ _|.ug _ _ _ _|.vC _|.clr _ _ _=>true
 |_=>false
def isLoad :AOp→Bool
 |.load _ _=>true
 |_=>false
def nR (cx : Bool) (s l : AO) : Bool :=
  (!DR s.op || Cb l.op) && (Iu l.op || dX s.op || (cx && M8 l.op && isLoad s.op)) &&
  (match s.dst with
   | some d => !(l.looks).contains d && l.dst != some d
   | none => true) &&
  (match l.dst with
   | some d => !(s.looks).contains d
   | none => true)
def flags (calls:Bool) (M:List Nat):List AO→Nat→List Bool→List Bool
 |[],_,acc=>acc
 |o::os,i,acc=>flags calls M os (i+1) (acc ++[Tc o.op&&(calls|| !Td o.op)&&(List.range i).all fun k=> !waits M i k||acc.getD k false])
def TS (nw:Bool) (M:List Nat):List AO→Nat→List Bool→List Bool
 |[],_,acc=>acc
 |o::os,i,acc=>TS nw M os (i+1) (acc ++[Tc o.op&& !Td o.op&& !isLoad o.op&&(nw|| !DR o.op)&&(List.range i).all fun k=> !waits M i k||acc.getD k false])
def OB (fl:List Bool) (i:Nat):Bool:=fl.getD i false
def oJ (E:Nat→Bool):Nat→List AO→List AO
 |_,[]=>[]
 |k,o::os=>if E k then o::oJ E (k+1) os else oJ E (k+1) os
def kK (E:Nat→Bool):Nat→List AO→List (Nat×AO)
 |_,[]=>[]
 |k,o::os=>if E k then kK E (k+1) os else(k,o)::kK E (k+1) os
def lg (M:List Nat) (rem:List (Nat×AO)) (i:Nat):Bool:=rem.all fun q=>q.1==i|| !waits M i q.1
def qK (M:List Nat) (E:Nat→Bool) (abJ:List AO) (i:Nat) (q:AOp):List (Option Nat×AX):=
 if M8 q then(List.range abJ.length).filterMap fun j=>if E j&& !waits M i j then(match abJ[j]? with
  |some o=>(match o.op with
   |.load k a=>some (k,a)
   |_=>none)
  |none=>none)else none
 else[]
def mkT (M:List Nat) (E:Nat→Bool) (abJ:List AO):Nat→List (Nat×AO)→LT
 |_,[]=>.done
 |0,_::_=>.bad
 |n+1,q::rem=>(q::rem).foldr (fun p acc=>if lg M (q::rem) p.1 then .alt p.2 (qK M E abJ p.1 p.2.op) (mkT M E abJ n ((q::rem).filter fun r=>r.1 !=p.1)) acc else acc) .stop
def rF (M : List Nat) (q : Nat × AO) (rem : List (Nat × AO)) : Bool :=
  (dX q.2.op || isLoad q.2.op) && lg M rem q.1 && rem.all fun p => p.1 != q.1 && (waits M p.1 q.1 ||
    ((dX q.2.op || dX p.2.op || isLoad p.2.op) &&
    (match q.2.dst with
     | some d => !(p.2.looks).contains d && p.2.dst != some d
     | none => true) &&
    (match p.2.dst with
     | some d => !(q.2.looks).contains d
     | none => true)))
def mkR (M:List Nat) (E:Nat→Bool) (abJ:List AO):Nat→List (Nat×AO)→LT
 |_,[]=>.done
 |0,_::_=>.bad
 |n+1,q::rem=>if rF M q rem then .alt q.2 (qK M E abJ q.1 q.2.op) (mkR M E abJ n rem) .stop else
   (q::rem).foldr (fun p acc=>if lg M (q::rem) p.1 then .alt p.2 (qK M E abJ p.1 p.2.op) (mkR M E abJ n ((q::rem).filter fun r=>r.1 !=p.1)) acc else acc) .stop
def oK (cx lin : Bool) (ops : Array Oper) (abJ : List AO) (M : List Nat) (E : Nat → Bool) : Bool :=
 ((List.range ops.size).all fun j => match ops[j]?, abJ[j]? with
  | some oj, some aj => (makes oj aj && oj.after.toList.all fun e => decide (e.on < j) || !Region.binds .any e) &&
   ((List.range ops.size).all fun i => match abJ[i]? with
    | some ai => match E j, E i with
     | true, true => decide (j ≤ i) || xS M i j ai aj
     | false, false => decide (j ≤ i) || waits M j i || !lin
     | false, true => waits M j i || nR cx ai aj
     | true, false => true
    | none => false)
  | _, _ => false)
def uj (abJ : List AO) (E : Nat → Bool) : Bool :=
 (List.range abJ.length).all fun i => match abJ[i]? with
  | some oi => !(E i && isLoad oi.op) || (List.range abJ.length).all fun j => match abJ[j]? with
   | some oj => decide (j < i) || !E j || (match oj.dst with
    | some d => !(oi.looks).contains d
    | none => true)
   | none => true
  | none => true
def xV {α:Type}:List Bool→(List Bool→α)→α
 |[],K=>K []
 |true::l,K=>xV l fun l=>K (true::l)
 |false::l,K=>xV l fun l=>K (false::l)
theorem Aq {α:Type}:∀(l:List Bool) (K:List Bool→α),xV l K=K l
 |[],_=>rfl
 |true::l,K=>Aq l fun l=>K (true::l)
 |false::l,K=>Aq l fun l=>K (false::l)
def jW :Code→Bool
 |.rangeFunc _ _ _ _=>false
 |.seq a b=>jW a&&jW b
 |.cond _ a b=>jW a&&jW b
 |.block _ c|.loop c|.scope c=>jW c
 |_=>true
def lN (m:Bool) (T:Tab) (n:Nat):Code→Option AC
 |.skip=>some .skip
 |.label _=>some .skip
 |.region _ ops d=>match qC T n ops ops.toList with
  |some l=>if d then
    if T.L.P.follows .mixedOrders=true then
     xV (TS m (masks ops.toList []) l 0 []) fun flR=>
     let R:=OB flR
     if(T.rd&&oK true false ops l (masks ops.toList []) R&&uj l R)=true then some (.iy (oJ R 0 l) (mkR (masks ops.toList []) R l (kK R 0 l).length (kK R 0 l)))
     else
     xV (flags false (masks ops.toList []) l 0 []) fun fl=>
     let E:=OB fl
     if oK false true ops l (masks ops.toList []) E=true then some (.draw (oJ E 0 l) ((kK E 0 l).map (·.2)))
     else if(m&&oK true true ops l (masks ops.toList []) E&&uj l E)=true then some (.iy (oJ E 0 l) (mkT (masks ops.toList []) E l (kK E 0 l).length (kK E 0 l)))
     else
      xV (flags true (masks ops.toList []) l 0 []) fun fl=>
      let E:=OB fl
      if oK false true ops l (masks ops.toList []) E=true then some (.draw (oJ E 0 l) ((kK E 0 l).map (·.2)))
      else if m=true then xV (flags false (masks ops.toList []) l 0 []) fun fl=>
       let E:=OB fl
       if(oK true false ops l (masks ops.toList []) E&&uj l E)=true then some (.iy (oJ E 0 l) (mkT (masks ops.toList []) E l (kK E 0 l).length (kK E 0 l)))else none
      else none
    else none
   else some (.ops l)
  |none=>none
 |.seq a b=>match lN m T n a,lN m T n b with
  |some a,some b=>some (.seq a b)
  |_,_=>none
 |.cond c a b=>match cX T c,lN m T n a,lN m T n b with
  |some c,some a,some b=>some (.cond c a b)
  |_,_,_=>none
 |.block id c=>(lN m T n c).map (.block id)
 |.loop c=>(lN m T n c).map .loop
 |.exit id=>some (.exit id)
 |.ret=>some .ret
 |.rangeFunc f ps asg body=>match cX T f,lN m T n asg,lN m T n body with
  |some f,some ca,some cb=>if(jW asg&&jW body&&ps.toList.all fun p=>decide (p<n))=true then some (.tO f ps.toList ca cb)else none
  |_,_,_=>none
 |_=>none
def EW (T:Tab):List ResultVar→Option (List LW)
 |[]=>some []
 |.tmp t::rs=>(EW T rs).map (.tmp t:: ·)
 |.cell a t::rs=>match T.agg t,EW T rs with
  |some k,some abJ=>some (.cell a k::abJ)
  |_,_=>none
def YK (m:Bool) (T:Tab) (fn:Func):Option aM:=
 match fn.body with
 |none=>none
 |some c=>match lN m T fn.ntmps c,EW T fn.results.toList with
  |some b,some rs=>some {nparams:=fn.params.size+fn.nfree,ntmps:=fn.ntmps,results:=rs,body:=b}
  |_,_=>none
def Tab.has (T:Tab) (g:Nat) (af:aM):Prop:=∃fn,T.L.P.funcs[T.L.num g]?=some fn∧∃m am rd lv,YK m {T with am:=am,rd:=rd,lv:=lv} fn=some af
end Go.Ag
/- Each operation of the machine does what its abstract operation says. -/
namespace Go.Ag
open Go
open Go.RowKit (Below)
variable {L : Lnk} {g g' : aA} {w w' : World} {H : Heap} {T : Tab}
structure dR (L:Lnk) (g:aA) (n:Nat) (tmps:Array Value) (e:Env):Prop where
 size:tmps.size=n
 rep:∀i,Rep L g (tmps.getD i undef) (e i)
theorem dR.mono {n:Nat} {tmps:Array Value} {e:Env} (h:dR L g n tmps e) (hg:g.le g'):dR L g' n tmps e:=⟨h.size,fun i=>(h.rep i).mono hg⟩
theorem str_eq (s:ByteArray):(⟨s.data.toList.toArray⟩:ByteArray)=s:=by cases s;simp
theorem Gw {v:Value} {x:au} (h:Lr v=some x):Rep L g v x:=by
 unfold Lr at h;split at h<;>cases h
 ·exact .bool _
 ·exact .int _ _
 ·rename_i s
  have:=Rep.str (L:=L) (g:=g) s.data.toList;rwa[str_eq]at this
 ·exact .eD
 ·have:=Rep.lst (L:=L) (g:=g) none 0 0 0 0 [] [] .nil (fun h=>absurd rfl h) (fun j v h=>by simp at h) (fun x h=>by simp at h) (Nat.le_refl _) ⟨rfl,rfl⟩ .nil
  exact this
 ·exact .gW
 ·exact .lM
 ·exact .eT
theorem qA {vs:List Value} {xs:List au} (h:qB vs=some xs):aX L g vs xs:=by
 induction vs generalizing xs with
 |nil=>cases h;exact .nil
 |cons v vs ih=>
  simp only[qB]at h
  cases h1:Lr v with
  |none=>rw[h1]at h;cases h
  |some x=>cases h2:qB vs with
   |none=>rw[h1,h2]at h;cases h
   |some xs'=>rw[h1,h2]at h;cases h;exact .cons _ _ _ _ (Gw h1) (ih h2)
theorem zy {v:Value} {x:au} (h:cVal v=some x):Rep L g v x:=by
 unfold cVal at h;split at h
 ·rename_i cs
  cases h1:qB cs.toList with
  |none=>rw[h1]at h;cases h
  |some xs=>rw[h1]at h;cases h;have:=Rep.agg cs.toList xs (qA (L:=L) (g:=g) h1);simpa using this
 ·exact Gw h
theorem Tab.vK {T:Tab} {f k:Nat} (h:T.fn f=some k):f=T.L.num k∧T.L.callable k:=by
 unfold Tab.fn at h;split at h
 ·rename_i hn
  split at h
  ·rename_i fn hf
   split at h
   ·rename_i hb
    cases h;simp only[Bool.and_eq_true,Bool.not_eq_true']at hb;exact⟨hn.symm,fn,by rw[hn];exact hf,hb.1,hb.2⟩
   ·cases h
  ·cases h
 ·cases h
theorem bQ {a:Act} {n:Nat} {e:Env} {x:Operand} {ax:AX} (h:cX T x=some ax) (hr:dR T.L g n a.tmps e):Rep T.L g (a.eval x) (ev e ax):=by
 cases x with
 |tmp t=>cases h;exact hr.rep t
 |const v=>
  simp only[cX]at h
  cases h1:cVal v with
  |none=>rw[h1]at h;cases h
  |some y=>rw[h1]at h;cases h;exact zy h1
 |global=>cases h
 |func f=>
  simp only[cX]at h
  cases h1:T.fn f with
  |none=>rw[h1]at h;cases h
  |some k=>
   rw[h1]at h;cases h;exact .fn (.func f) (.func k) [] [] [] [] (Tab.vK h1) .nil .nil
theorem zx {a:Act} {n:Nat} {e:Env} {xs:List Operand} {axs:List AX} (h:cXs T xs=some axs) (hr:dR T.L g n a.tmps e):aX T.L g (xs.map a.eval) (axs.map (ev e)):=by
 induction xs generalizing axs with
 |nil=>cases h;exact .nil
 |cons x xs ih=>
  simp only[cXs]at h
  cases h1:cX T x with
  |none=>rw[h1]at h;cases h
  |some y=>cases h2:cXs T xs with
   |none=>rw[h1,h2]at h;cases h
   |some ys=>rw[h1,h2]at h;cases h;exact .cons _ _ _ _ (bQ h1 hr) (ih h2)
def Good (L:Lnk) (g:aA) (K KP:au→Heap→Prop):Result Next→Prop
 |.ok (.value v) w'=>∃x H' g',K x H'∧g.le g'∧St L g' w' H'∧Rep L g' v x
 |.ok .skip w'=>∃H' g',K .undef H'∧g.le g'∧St L g' w' H'
 |.ok (.enter f args) w'=>Calls L.P f args w' fun e w''=>match e with
  |.returned v=>∃x H' g',K x H'∧g.le g'∧St L g' w'' H'∧Rep L g' v x
  |.panicked chain=>∃v x H' g',chain=[⟨v,false,false⟩]∧KP x H'∧g.le g'∧St L g' w'' H'∧Rep L g' v x
  |.outgrown=>False
 |.ok (.round l f tmps asg body) w'=>RoundIn Fence.wide 0 L.P l f tmps asg body w' fun e w''=>match e with
  |.returned v=>∃x H' g',K x H'∧g.le g'∧St L g' w'' H'∧Rep L g' v x
  |.panicked chain=>∃v x H' g',chain=[⟨v,false,false⟩]∧KP x H'∧g.le g'∧St L g' w'' H'∧Rep L g' v x
  |.outgrown=>False
 |.halt (.panic v) w'=>∃x H' g',KP x H'∧g.le g'∧St L g' w' H'∧Rep L g' v x
 |_=>False
abbrev FW (ro:Option Nat):Fence:={Fence.wide with round:=ro}
theorem Et {ro:Option Nat} {n:Nat} {P:Program} {f:FuncId} {args:Array Value} {w:World} {R:Ending→World→Prop} (h:Calls P f args w R):CallsIn (FW ro) n P f args w R:=
 (callsIn_wide (n:=n)).2 h
theorem Mt {ro:Option Nat} {n:Nat} {P:Program} {l:Nat} {f:FuncId} {tmps:Array Value} {asg body:Code} {w:World} {R:Ending→World→Prop} (h:RoundIn Fence.wide 0 P l f tmps asg body w R):RoundIn (FW ro) n P l f tmps asg body w R:=
 ⟨trivial,fun c cs _=>h.2 c cs (room_wide _)⟩
def DOK (g0 g:aA) (ds:List Deferred):Prop:=
 ∃bs:List Nat,ds=bs.map (fun b=>{target:=.collected b,args:= #[]})∧bs.Nodup∧∀b∈bs,g.dk b=true∧g0.dk b=false∧g.own b
theorem DOK.nil {g0 g:aA}:DOK g0 g []:=⟨[],rfl,List.nodup_nil,fun _ h=>by cases h⟩
theorem DOK.mono {g0 g g':aA} {ds:List Deferred} (h:DOK g0 g ds) (hg:g.le g'):DOK g0 g' ds:=
 let⟨bs,h1,h2,h3⟩:=h
 ⟨bs,h1,h2,fun b hb=>⟨hg.dk b (h3 b hb).1,(h3 b hb).2.1,hg.own (h3 b hb).2.2⟩⟩
theorem aP {K KP:au→Heap→Prop} {v:Value} {x:au} (hs:St L g w H) (hr:Rep L g v x) (h:K x H):Good L g K KP (.ok (.value v) w):=
 ⟨x,H,g,h,aA.le.refl g,hs,hr⟩
theorem kE {v:Value} {b:Bool} (h:Rep L g v (.bool b)):v=.bool b:=by cases h;rfl
theorem gG {v:Value} {k:IntKind} {n:Int} (h:Rep L g v (.int k n)):v=.int k n:=by cases h;rfl
theorem iQ {v:Value} {s:List UInt8} (h:Rep L g v (.str s)):v=.string ⟨s.toArray⟩:=by cases h;rfl
theorem zN (s:List UInt8):(⟨s.toArray⟩:ByteArray).toList=s:=by
 rw[Go.ByteArray.toList_eq]
theorem bytesLess_eq (a b:List UInt8):Op.bytesLess a b=bytesLess a b:=by
 induction a generalizing b with
 |nil=>cases b<;>rfl
 |cons x a ih=>cases b with
  |nil=>rfl
  |cons y b=>simp only[Op.bytesLess,bytesLess,ih]
theorem bq {K KP:au→Heap→Prop} {m:Sem Value} {v:Value} (h:m.run L.P w=.ok v w') (hg:Good L g K KP (.ok (.value v) w')):
  Good L g K KP ((do pure (Next.value (←m)):Sem Next).run L.P w):=by
 rw[Sem.run_bind,h];exact hg
theorem Am {K KP:au→Heap→Prop} {m:Sem Unit} (h:m.run L.P w=.ok () w') (hg:Good L g K KP (.ok .skip w')):
  Good L g K KP ((do m;pure Next.skip:Sem Next).run L.P w):=by
 rw[Sem.run_bind,h];exact hg
theorem KX {P:Program} {op:BinOp} {k:IntKind} {a b:Int} {r:au} (t:TypeId) (h:T9 op k a b=some r):
  ∃z,(Go.binOp op t (.int k a) (.int k b)).run P w=.ok z w∧Rep L g z r:=by
 cases op<;>simp only[T9]at h<;>first
  |(cases h;done)
  |(simp only[Option.some.injEq]at h;subst h;exact⟨_,by simp[Go.binOp,Op.intArith,Op.intBits,Op.intCmp];rfl,by constructor⟩)
  |(simp only[Option.some.injEq]at h;subst h;exact⟨_,by simp only[Go.binOp,Op.intBits,ne_eq,not_true,if_false];rfl,by constructor⟩)
  |(split at h<;>first|(cases h;done)|(simp only[Option.some.injEq]at h;subst h;rename_i hb;exact⟨_,by simp[Go.binOp,Op.intDiv,hb];rfl,by constructor⟩))
theorem KW {P:Program} {op:BinOp} {a b:List UInt8} {r:au} (t:TypeId) (h:TY op a b=some r):
  ∃z,(Go.binOp op t (.string ⟨a.toArray⟩) (.string ⟨b.toArray⟩)).run P w=.ok z w∧Rep L g z r:=by
 have e:∀op',op'≠.shl→op'≠.shr→Go.binOp op' t (.string ⟨a.toArray⟩) (.string ⟨b.toArray⟩)=Op.stringOp op' ⟨a.toArray⟩ ⟨b.toArray⟩:=by
  intro op' _ _;cases op'<;>rfl
 cases op<;>simp only[TY]at h<;>first
  |(cases h;done)
  |(simp only[Option.some.injEq]at h;subst h;exact⟨_,by rw[e _ (by decide) (by decide)];simp only[Op.stringOp,zN,bytesLess_eq];rfl,by constructor⟩)
  |skip
 split at h
 ·rename_i hl
  cases h;refine⟨.string ⟨(a ++b).toArray⟩,?_,.str _⟩;rw[e _ (by decide) (by decide)];simp only[Op.stringOp];have h1:(⟨a.toArray⟩:ByteArray).size=a.length:=by simp[ByteArray.size]
  have h2:(⟨b.toArray⟩:ByteArray).size=b.length:=by simp[ByteArray.size]
  rw[if_neg (by rw[h1,h2,IntKind.max_i64];unfold Ic at hl;omega)]
  have h3:(⟨a.toArray⟩:ByteArray) ++(⟨b.toArray⟩:ByteArray)=⟨(a ++b).toArray⟩:=by
   apply ByteArray.ext;simp
  rw[h3];rfl
 ·cases h
theorem KY {P:Program} {op:BinOp} {u v:Value} {a b r:au} (t:TypeId) (x y:Operand) (h:Ec op a b=some r) (h1:Rep L g u a) (h2:Rep L g v b):
  ∃z,(do eqGuard op t x y u v;Go.binOp op t u v:Sem Value).run P w=.ok z w∧Rep L g z r:=by
 unfold Ec at h;split at h
 ·cases gG h1;cases gG h2
  split at h
  ·cases h
  ·rename_i hb
   cases h;exact⟨_,by simp[eqGuard,Go.binOp,Op.shift,hb],.int _ _⟩
 ·cases gG h1;cases gG h2
  split at h
  ·cases h
  ·rename_i hb
   cases h;exact⟨_,by simp[eqGuard,Go.binOp,Op.shift,hb],.int _ _⟩
 ·cases gG h1;cases gG h2
  split at h
  ·rename_i hk
   subst hk;obtain⟨z,hz,hr⟩:=KX (P:=P) (L:=L) (g:=g) (w:=w) t h;exact⟨z,by rw[eqGuard_at_int];simpa using hz,hr⟩
  ·cases h
 ·cases iQ h1;cases iQ h2
  obtain⟨z,hz,hr⟩:=KW (P:=P) (L:=L) (g:=g) (w:=w) t h;exact⟨z,by rw[eqGuard_at_string];simpa using hz,hr⟩
 ·cases h
theorem Np {P:Program} {op:UnOp} {u:Value} {a r:au} (h:Ri op a=some r) (h1:Rep L g u a):
  ∃z,(Op.unary op u).run P w=.ok z w∧Rep L g z r:=by
 unfold Ri at h;split at h
 ·cases kE h1;cases h;exact⟨_,rfl,.bool _⟩
 ·cases gG h1;cases h;exact⟨_,by simp[Op.unary,Op.intArith],.int _ _⟩
 ·cases h
end Go.Ag

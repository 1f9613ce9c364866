/- Our texts, joined by a program of ours (join.py): part 3 of 9. -/
import Derived.Test.YtmjgjmaljdgcpaaGreatDoorTextB
import Derived.OrdersIn
import Derived.IntWalk
set_option linter.unusedVariables false
/- A region whose order is drawn: its soft operations may come up in any order that their edges allow, and tell the same. -/
namespace Go.Ag
open Go
open Go.RowKit (Below)
variable {T : Tab} {L : Lnk} {g : aA} {w : World} {H : Heap} {e : Env} {a : Act} {n : Nat}
theorem pq {e e':Env} {xs:List AX} (h:∀x∈xs,ev e x=ev e' x):xs.map (ev e)=xs.map (ev e'):=List.map_congr_left h
theorem o8 {e e':Env} {x:Option AX} (h:∀y∈x.toList,ev e y=ev e' y):x.map (ev e)=x.map (ev e'):=by
 cases x with
 |none=>rfl
 |some y=>simp[h y (by simp)]
theorem jD {q : AOp} {e e' : Env} {H : Heap} {K KP : au → Heap → Prop} (hx : ∀ x ∈ q.xs, ev e x = ev e' x) (h : aF L q e H K KP) : aF L q e' H K KP := by
  cases q
  case build z ps =>
    simp only [aF] at h ⊢
    have h1 : ∀ p ∈ ps, ev e p.2.2 = ev e' p.2.2 := fun p hp => hx _ (by simp only [AOp.xs, List.mem_map]; exact ⟨p, hp, rfl⟩)
    refine ⟨fun p hp => by rw [← h1 p hp]; exact h.1 p hp, ?_⟩
    have h2 : (ps.map fun p => (p.1, (ev e' p.2.2).cells)) = ps.map fun p => (p.1, (ev e p.2.2).cells) := List.map_congr_left fun p hp => by rw [h1 p hp]
    rw [h2]; exact h.2
  case lit k b z m ps =>
    simp only [aF] at h ⊢
    have h1 : ∀ p ∈ ps, ev e p.2 = ev e' p.2 := fun p hp => hx _ (by simp only [AOp.xs, List.mem_map]; exact ⟨p, hp, rfl⟩)
    refine ⟨fun p hp => by rw [← h1 p hp]; exact h.1 p hp, ?_⟩
    have h2 : (ps.map fun p => ev e' p.2) = ps.map fun p => ev e p.2 := List.map_congr_left fun p hp => by rw [h1 p hp]
    rw [h2]; exact h.2
  case Ik k tt ps =>
    simp only [aF] at h ⊢
    have h1 : ∀ p ∈ ps, ev e p.2 = ev e' p.2 := fun p hp => hx _ (by simp only [AOp.xs, List.mem_map]; exact ⟨p, hp, rfl⟩)
    refine ⟨fun p hp => by rw [← h1 p hp]; exact h.1 p hp, ?_⟩
    have h2 : (ps.map fun p => ev e' p.2) = ps.map fun p => ev e p.2 := List.map_congr_left fun p hp => by rw [h1 p hp]
    rw [h2]; exact h.2
  case mkF f fi ca =>
    simp only [aF] at h ⊢
    rw [← pq (xs := fi) fun x hm => hx x (by simp [AOp.xs, hm]), ← pq (xs := ca) fun x hm => hx x (by simp [AOp.xs, hm])]
    exact h
  case wW x lo hi =>
    simp only [aF] at h ⊢
    rw [← o8 (x := lo) fun x hm => hx x (by simp only [AOp.xs]; exact List.mem_cons_of_mem _ (List.mem_append_left _ hm)), ← o8 (x := hi) fun x hm => hx x (by simp only [AOp.xs]; exact List.mem_cons_of_mem _ (List.mem_append_right _ hm)), ← hx x (by simp [AOp.xs])]
    exact h
  case yK k x lo hi =>
    simp only [aF] at h ⊢
    rw [← o8 (x := lo) fun x hm => hx x (by simp only [AOp.xs]; exact List.mem_cons_of_mem _ (List.mem_append_left _ hm)), ← o8 (x := hi) fun x hm => hx x (by simp only [AOp.xs]; exact List.mem_cons_of_mem _ (List.mem_append_right _ hm)), ← hx x (by simp [AOp.xs])]
    exact h
  case call f abJ =>
    simp only [aF] at h ⊢
    rw [← pq (xs := abJ) fun x hm => hx x (by simp [AOp.xs, hm])]
    exact h
  case fJ f abJ =>
    simp only [aF] at h ⊢
    rw [← pq (xs := abJ) fun x hm => hx x (by simp [AOp.xs, hm]), ← hx f (by simp [AOp.xs])]
    exact h
  case pick c x y =>
    simp only [aF] at h ⊢
    rw [← hx c (by simp [AOp.xs]), ← hx x (by simp [AOp.xs]), ← hx y (by simp [AOp.xs])]
    exact h
  case ug kk m k v =>
    simp only [aF] at h ⊢
    rw [← hx m (by simp [AOp.xs]), ← hx k (by simp [AOp.xs]), ← hx v (by simp [AOp.xs])]
    exact h
  all_goals first
    | exact h
    | (rename_i x
       simp only [aF] at h ⊢
       rw [← hx x (by simp [AOp.xs])]
       exact h)
    | (rename_i x y
       simp only [aF] at h ⊢
       rw [← hx x (by simp [AOp.xs]), ← hx y (by simp [AOp.xs])]
       exact h)
    | (rename_i x y
       simp only [aF] at h ⊢
       rw [← hx x (by simp [AOp.xs])]
       exact h)
theorem light {q:AOp} (hq:dX q=true) {e:Env} {H:Heap} {K KP:au→Heap→Prop} (h:aF L q e H K KP):
  ∃v,K v H∧∀H' K' KP',K' v H'→aF L q e H' K' KP':=by
 cases q<;>first|(cases hq;done)|skip
 case pick c a b=>simp only[aF]at h⊢;generalize ev e c=vx at h⊢;cases vx<;>first|exact h.elim|exact⟨_,h,fun _ _ _ h=>h⟩
 case aJ x=>simp only[aF]at h⊢;generalize ev e x=vx at h⊢;cases vx<;>first|exact h.elim|exact⟨_,h,fun _ _ _ h=>h⟩
 case bin op x y=>simp only[aF]at h⊢;generalize Ec op (ev e x) (ev e y)=vx at h⊢;cases vx<;>first|exact h.elim|exact⟨_,h,fun _ _ _ h=>h⟩
 case un op x=>simp only[aF]at h⊢;generalize Ri op (ev e x)=vx at h⊢;cases vx<;>first|exact h.elim|exact⟨_,h,fun _ _ _ h=>h⟩
 case pz k x=>simp only[aF]at h⊢;generalize ev e x=vx at h⊢;cases vx<;>first|exact h.elim|exact⟨_,h,fun _ _ _ h=>h⟩
 case wN x=>simp only[aF]at h⊢;generalize ev e x=vx at h⊢;cases vx<;>first|exact h.elim|exact⟨_,h,fun _ _ _ h=>h⟩
 case zu x=>
  simp only[aF]at h⊢;generalize ev e x=vx at h⊢;cases vx<;>try exact h.elim
  rename_i xs tk;dsimp only at h⊢;cases h1:jT xs<;>simp only[h1]at h⊢;exact⟨_,h,fun _ _ _ h=>h⟩
 case eqNil k neg x=>simp only[aF]at h⊢;generalize isNil k (ev e x)=vx at h⊢;cases vx<;>first|exact h.elim|exact⟨_,h,fun _ _ _ h=>h⟩
 case qz neg x y=>simp only[aF]at h⊢;generalize ev e x=vx at h⊢;generalize ev e y=vy at h⊢;cases vx<;>cases vy<;>first|exact h.elim|exact⟨_,h,fun _ _ _ h=>h⟩
 case bT ks neg x y=>
  simp only[aF]at h⊢;generalize ev e x=vx at h⊢;generalize ev e y=vy at h⊢;cases vx<;>cases vy<;>try exact h.elim
  rename_i xs ys;dsimp only at h⊢;cases h1:bT ks xs ys<;>simp only[h1]at h⊢;exact⟨_,h,fun _ _ _ h=>h⟩
 case wW x lo hi=>
  simp only[aF]at h⊢;generalize ev e x=vx at h⊢;cases vx<;>try exact h.elim
  rename_i s;dsimp only at h⊢;cases h1:fO (lo.map (ev e)) 0<;>simp only[h1]at h⊢ <;>cases h2:fO (hi.map (ev e)) s.length<;>simp only[h2]at h⊢;exact⟨_,h.2.2,fun _ _ _ h'=>⟨h.1,h.2.1,h'⟩⟩
 case yK k x lo hi=>
  simp only[aF]at h⊢;generalize ev e x=vx at h⊢;cases vx<;>try exact h.elim
  case vec id ver k' off len=>
   dsimp only at h⊢;cases h1:fO (lo.map (ev e)) 0<;>simp only[h1]at h⊢ <;>cases h2:fO (hi.map (ev e)) len<;>simp only[h2]at h⊢;exact⟨_,h.2,fun _ _ _ h'=>⟨h.1,h'⟩⟩
  rename_i xs tk;dsimp only at h⊢;cases h1:fO (lo.map (ev e)) 0<;>simp only[h1]at h⊢ <;>cases h2:fO (hi.map (ev e)) xs.length<;>simp only[h2]at h⊢;exact⟨_,h.2.2.2,fun _ _ _ h'=>⟨h.1,h.2.1,h.2.2.1,h'⟩⟩
 case aB off x=>simp only[aF]at h⊢;generalize ev e x=vx at h⊢;cases vx<;>first|exact h.elim|exact⟨_,h,fun _ _ _ h=>h⟩|exact⟨_,h.2,fun _ _ _ h'=>⟨h.1,h'⟩⟩
 case fld off k x=>
  simp only[aF]at h⊢;generalize ev e x=vx at h⊢;cases vx<;>try exact h.elim
  rename_i cs
  cases k with
  |none=>dsimp only at h⊢;cases h1:cs[off]?<;>simp only[h1]at h⊢;exact⟨_,h,fun _ _ _ h=>h⟩
  |some k=>exact⟨_,h.2,fun _ _ _ h'=>⟨h.1,h'⟩⟩
 case aV k x i=>
  simp only[aF]at h⊢;generalize ev e x=vx at h⊢;generalize ev e i=vi at h⊢;cases vx<;>cases vi<;>try exact h.elim
  ·rename_i xs tk k' n
   dsimp only at h⊢;obtain⟨h0,h⟩:=h;cases h1:xs[n.toNat]?<;>simp only[h1]at h⊢;exact⟨_,h.2,fun _ _ _ h'=>⟨h0,h.1,h'⟩⟩
  ·exact⟨_,h.2,fun _ _ _ h'=>⟨h.1,h'⟩⟩
  ·exact⟨_,h.2,fun _ _ _ h'=>⟨h.1,h'⟩⟩
 case zf x i=>
  simp only[aF]at h⊢;generalize ev e x=vx at h⊢;generalize ev e i=vi at h⊢;cases vx<;>cases vi<;>try exact h.elim
  rename_i s k' n;dsimp only at h⊢;obtain⟨h0,h⟩:=h;cases h1:s[n.toNat]?<;>simp only[h1]at h⊢;exact⟨_,h,fun _ _ _ h'=>⟨h0,h'⟩⟩
 case ssd x=>simp only[aF]at h⊢;generalize ev e x=vx at h⊢;cases vx<;>first|exact h.elim|exact⟨_,h.2,fun _ _ _ h'=>⟨h.1,h'⟩⟩
 case ext x i=>
  simp only[aF]at h⊢;generalize ev e x=vx at h⊢;cases vx<;>try exact h.elim
  rename_i vs;dsimp only at h⊢;cases h1:vs[i]?<;>simp only[h1]at h⊢;exact⟨_,h,fun _ _ _ h=>h⟩
 case qx x=>simp only[aF]at h⊢;generalize ev e x=vx at h⊢;cases vx<;>first|exact h.elim|exact⟨_,h,fun _ _ _ h=>h⟩
 case jo x=>simp only[aF]at h⊢;generalize ev e x=vx at h⊢;cases vx<;>first|exact h.elim|exact⟨_,h,fun _ _ _ h=>h⟩
 case build z ps=>exact⟨_,h.2,fun _ _ _ h'=>⟨h.1,h'⟩⟩
 case lit k b z m ps=>exact⟨_,h.2,fun _ _ _ h'=>⟨h.1,h'⟩⟩
 all_goals exact⟨_,h,fun _ _ _ h=>h⟩
def qE (L:Lnk) (q:AOp) (e:Env) (H0:Heap) (len:Nat) (v:au):Option aU→Prop
 |some zs=>v=.ptr len 0∧((∃cs t,q=.alloc cs t∧zs=.cells cs t)∨∃x t,q=.box t x∧zs=.cells (ev e x).cells t∧(ev e x).cells.all uJ=true)
 |none=>DR q=false∧∀H',(dX q=true∨agree H0.length H0 H'∨∃k a,q=.load k a∧∀v,loadAt H0 k (ev e a)=some v→qU H0.length (ev e a)=true→loadAt H' k (ev e a)=some v)→∀K KP,K v H'→aF L q e H' K KP
def objs :Option aU→List aU
 |some zs=>[zs]
 |none=>[]
theorem y5 {n:Nat} {H0 H':Heap} (ha:agree n H0 H') {k:Option Nat} {x v:au} (hp:qU n x=true) (h:loadAt H0 k x=some v):loadAt H' k x=some v:=by
 have hc:∀m c,fI H0 x m=some c→fI H' x m=some c:=fun m c hc=>by
  cases x<;>try(exact hc)
  case jv=>cases hp
  rename_i id off;have hid:id<n:=by simpa[qU]using hp
  simp only[fI]at hc⊢
  cases ho:H0[id]? with
  |none=>simp only[ho]at hc;cases hc
  |some o=>
   cases o<;>simp only[ho]at hc<;>try(cases hc;done)
   rw[ha.2 id _ hid ho ⟨fun m t=>by simp,fun v xs t=>by simp⟩ (by simp)];exact hc
 unfold loadAt at h⊢
 cases k with
 |none=>
  dsimp only at h⊢
  cases h1:fI H0 x 1 with
  |none=>rw[h1]at h;cases h
  |some c=>rw[h1]at h;rw[hc 1 c h1];exact h
 |some k=>
  dsimp only at h⊢
  cases h1:fI H0 x k with
  |none=>rw[h1]at h;cases h
  |some c=>rw[h1]at h;rw[hc k c h1];exact h
theorem xg {q:AOp} {e:Env} {H0 H:Heap} {K:au→Heap→Prop} (h:eP L q e H0 H K):
  ∃v z,qE L q e H0 H.length v z∧K v (H ++objs z):=by
 have lt:dX q=true→aF L q e H K (fun _ _=>False)→∃v z,qE L q e H0 H.length v z∧K v (H ++objs z):=fun hq h=>by
  obtain⟨v,h1,h2⟩:=light hq h;have hnew:DR q=false:=by cases q<;>first|rfl|(cases hq;done)
  exact⟨v,none,⟨hnew,fun H' _ K' KP' hk=>h2 H' K' KP' hk⟩,by simpa[objs]using h1⟩
 cases q<;>first|exact lt rfl h|exact h.elim|skip
 case alloc z t=>exact⟨_,some (.cells z t),⟨rfl,.inl ⟨z,t,rfl,rfl⟩⟩,h⟩
 case box t x=>exact⟨_,some (.cells (ev e x).cells t),⟨rfl,.inr ⟨x,t,rfl,rfl,h.1⟩⟩,h.2⟩
 case load k a=>
  simp only[eP]at h;obtain⟨hp,h⟩:=h
  cases hl:loadAt H0 k (ev e a)with
  |none=>simp only[hl]at h
  |some v=>
   simp only[hl]at h;refine⟨v,none,⟨rfl,fun H' ha K' KP' hk=>?_⟩,by simpa[objs]using h⟩
   have hl':loadAt H' k (ev e a)=some v:=by
    rcases ha.resolve_left (by simp[dX])with ha|⟨k',a',e1,ha⟩
    ·exact y5 ha hp hl
    ·cases e1;exact ha v hl hp
   simp only[aF,hl'];exact hk
 case call f abJ=>
  obtain⟨v,h1,h2⟩:=h;refine⟨v,none,⟨rfl,fun H' ha K' KP' hk=>?_⟩,by simpa[objs]using h2⟩;exact aC.mono (h1 H' ((ha.resolve_left (by simp[dX])).resolve_right fun⟨_,_,e1,_⟩=>by cases e1)) fun r H'' hr=>by obtain⟨rfl,rfl⟩:=hr;exact hk
 case fJ f abJ=>
  simp only[eP]at h;cases hf:ev e f<;>simp only[hf]at h;rename_i af fi ca;cases af<;>simp only at h;obtain⟨v,h1,h2⟩:=h;refine⟨v,none,⟨rfl,fun H' ha K' KP' hk=>?_⟩,by simpa[objs]using h2⟩;simp only[aF,hf];exact aC.mono (h1 H' ((ha.resolve_left (by simp[dX])).resolve_right fun⟨_,_,e1,_⟩=>by cases e1)) fun r H'' hr=>by obtain⟨rfl,rfl⟩:=hr;exact hk
def kW (L:Lnk) (o:AO) (e:Env) (H0:Heap) (len:Nat) (v:au) (z:Option aU):Prop:=
 match o.guard with
 |none=>qE L o.op e H0 len v z
 |some (t,want)=>(∃b,e t=.bool b∧((b=want∧qE L o.op e H0 len v z)∨(b≠want∧v=.tup []∧z=none)))∨(e t=.tup []∧v=.tup []∧z=none)
abbrev Trace :=List (au×Option aU)
def Tr (L:Lnk) (H0:Heap):List AO→Trace→Env→Nat→Prop
 |[],[],_,_=>True
 |o::os,(v,z)::tr,e,len=>kW L o e H0 len v z∧Tr L H0 os tr (bg e o.dst v) (len+(objs z).length)
 |_,_,_,_=>False
def eF (S:Nat→Bool):Nat→Env→List AO→Trace→Env
 |k,e,o::os,(v,_)::tr=>eF S (k+1) (if S k then bg e o.dst v else e) os tr
 |_,e,_,_=>e
def pad (S:Nat→Bool):Nat→Trace→List aU
 |_,[]=>[]
 |k,(_,none)::tr=>pad S (k+1) tr
 |k,(_,some zs)::tr=>(if S k then zs else .dead)::pad S (k+1) tr
theorem AL {H0:Heap} {K:Env→Heap→Prop}:∀(l:List AO) (k:Nat) (e:Env) (H:Heap),iA L H0 l e H K→
  ∃tr,Tr L H0 l tr e H.length∧K (eF (fun _=>true) k e l tr) (H ++pad (fun _=>true) k tr)
 |[],k,e,H,h=>⟨[],trivial,by simpa[eF,pad]using(show K e H from h)⟩
 |o::os,k,e,H,h=>by
  have step:∀v z,kW L o e H0 H.length v z→iA L H0 os (bg e o.dst v) (H ++objs z) K→∃tr,Tr L H0 (o::os) tr e H.length∧K (eF (fun _=>true) k e (o::os) tr) (H ++pad (fun _=>true) k tr):=fun v z h1 h2=>by
   obtain⟨tr,k1,k2⟩:=AL os (k+1) _ _ h2;refine⟨(v,z)::tr,⟨h1,by simpa using k1⟩,?_⟩
   cases z with
   |none=>simpa[eF,pad,objs]using k2
   |some zs=>simpa[eF,pad,objs]using k2
  simp only[iA]at h
  cases hg:o.guard with
  |none=>
   simp only[hg]at h;obtain⟨v,z,h1,h2⟩:=xg h;exact step v z (by simpa[kW,hg]using h1) h2
  |some p=>
   obtain⟨t,want⟩:=p;simp only[hg]at h;cases he:e t<;>simp only[he]at h
   case tup vs=>
    cases vs with
    |cons=>exact False.elim h
    |nil=>exact step (.tup []) none (by unfold kW;rw[hg];exact .inr ⟨he,rfl,rfl⟩) (by simpa[objs]using h)
   rename_i b
   have act:eP L o.op e H0 H (fun v H'=>iA L H0 os (bg e o.dst v) H' K)→b=want→∃tr,Tr L H0 (o::os) tr e H.length∧K (eF (fun _=>true) k e (o::os) tr) (H ++pad (fun _=>true) k tr):=fun h hb=>by
    obtain⟨v,z,h1,h2⟩:=xg h;exact step v z (by simp only[kW,hg];exact .inl ⟨b,he,.inl ⟨hb,h1⟩⟩) h2
   have sk:iA L H0 os (bg e o.dst (.tup [])) H K→b≠want→∃tr,Tr L H0 (o::os) tr e H.length∧K (eF (fun _=>true) k e (o::os) tr) (H ++pad (fun _=>true) k tr):=fun h hb=>
    step (.tup []) none (by unfold kW;rw[hg];exact .inl ⟨b,he,.inr ⟨hb,rfl,rfl⟩⟩) (by simpa[objs]using h)
   cases want<;>cases b<;>first|exact act h rfl|exact sk h (by simp)
def cnt :Trace→Nat→Nat
 |_,0=>0
 |[],_=>0
 |(_,z)::tr,i+1=>(objs z).length+cnt tr i
theorem Py {H0:Heap}:∀(l:List AO) (tr:Trace) (k:Nat) (e:Env) (len:Nat),Tr L H0 l tr e len→∀i o,l[i]?=some o→
  ∃v z,tr[i]?=some (v,z)∧kW L o (eF (fun j=>decide (j<k+i)) k e l tr) H0 (len+cnt tr i) v z
 |[],[],k,e,len,h,i,o,ho=>by simp at ho
 |[],_::_,k,e,len,h,i,o,ho=>by simp at ho
 |_::_,[],k,e,len,h,i,o,ho=>h.elim
 |o::os,(v,z)::tr,k,e,len,h,i,o',ho=>by
  cases i with
  |zero=>
   simp at ho;subst ho;refine⟨v,z,rfl,?_⟩
   have hnone:∀(os:List AO) (tr:Trace) (m:Nat) (e:Env),k<m→eF (fun j=>decide (j<k+0)) m e os tr=e:=by
    intro os
    induction os with
    |nil=>intro tr m e _;rfl
    |cons o os ih=>
     intro tr m e hm
     cases tr with
     |nil=>rfl
     |cons p tr=>
      obtain⟨u,y⟩:=p;simp only[eF];rw[ih tr (m+1) _ (by omega),if_neg (by simp;omega)]
   simp only[eF];rw[hnone _ _ _ _ (Nat.lt_succ_self k),if_neg (by simp)];simpa[cnt]using h.1
  |succ i=>
   obtain⟨v',z',h1,h2⟩:=Py os tr (k+1) _ _ h.2 i o' (by simpa using ho);refine⟨v',z',by simpa using h1,?_⟩;simp only[eF];rw[if_pos (by simp)];have e1:k+(i+1)=k+1+i:=by omega
   rw[e1];have e2:len+cnt ((v,z)::tr) (i+1)=len+(objs z).length+cnt tr i:=by simp only[cnt];omega
   rw[e2];exact h2
def jK (S:Nat→Bool) (i:Nat):Nat→Bool:=fun k=>decide (k=i)||S k
theorem BX {S S':Nat→Bool}:∀(tr:Trace) (k:Nat),(∀j,k≤j→S j=S' j)→pad S k tr=pad S' k tr
 |[],k,h=>rfl
 |(v,none)::tr,k,h=>by simp only[pad];exact BX tr (k+1) fun j hj=>h j (by omega)
 |(v,some zs)::tr,k,h=>by simp only[pad];rw[h k (Nat.le_refl k),BX tr (k+1) fun j hj=>h j (by omega)]
theorem J4 {S:Nat→Bool} {v:au}:∀(tr:Trace) (k i:Nat),tr[i]?=some (v,none)→pad (jK S (k+i)) k tr=pad S k tr
 |[],k,i,h=>by simp at h
 |(v',z)::tr,k,0,h=>by
  simp at h;obtain⟨rfl,rfl⟩:=h;simp only[pad];exact BX tr (k+1) fun j hj=>by simp[jK];omega
 |(v',z)::tr,k,i+1,h=>by
  have ih:=J4 (S:=S) (v:=v) tr (k+1) i (by simpa using h);rw[show k+(i+1)=k+1+i from by omega]
  cases z with
  |none=>simpa only[pad]using ih
  |some zs=>
   simp only[pad];rw[ih];have:jK S (k+1+i) k=S k:=by simp[jK];omega
   rw[this]
theorem Sr {S:Nat→Bool} {v:au} {zs:aU}:∀(tr:Trace) (k i:Nat),tr[i]?=some (v,some zs)→(pad S k tr)[cnt tr i]?=some (if S (k+i)then zs else .dead)
 |[],k,i,h=>by simp at h
 |(v',z)::tr,k,0,h=>by
  simp at h;obtain⟨rfl,rfl⟩:=h;simp[pad,cnt]
 |(v',z)::tr,k,i+1,h=>by
  have ih:=Sr (S:=S) (v:=v) tr (k+1) i (by simpa using h);rw[show k+(i+1)=k+1+i from by omega]
  cases z with
  |none=>simpa only[pad,cnt,objs,List.length_nil,Nat.zero_add]using ih
  |some ys=>simp only[pad,cnt,objs,List.length_singleton,Nat.add_comm 1];simpa using ih
theorem Oq {S:Nat→Bool} {v:au} {zs:aU}:∀(tr:Trace) (k i:Nat),tr[i]?=some (v,some zs)→pad (jK S (k+i)) k tr=(pad S k tr).set (cnt tr i) zs
 |[],k,i,h=>by simp at h
 |(v',z)::tr,k,0,h=>by
  simp at h;obtain⟨rfl,rfl⟩:=h;simp only[pad,cnt,List.set_cons_zero];rw[BX tr (k+1) (S':=S) fun j hj=>by simp[jK];omega];simp[jK]
 |(v',z)::tr,k,i+1,h=>by
  have ih:=Oq (S:=S) (v:=v) tr (k+1) i (by simpa using h);rw[show k+(i+1)=k+1+i from by omega]
  cases z with
  |none=>simpa only[pad,cnt,objs,List.length_nil,Nat.zero_add]using ih
  |some ys=>
   simp only[pad,cnt,objs,List.length_singleton,Nat.add_comm 1,List.set_cons_succ];rw[ih];have:jK S (k+1+i) k=S k:=by simp[jK];omega
   rw[this]
theorem nN (e:Env) (d:Option Nat) (v:au) (t:Nat):bg e d v t=if d=some t then v else e t:=by
 cases d with
 |none=>simp[bg]
 |some d=>simp only[bg,upd,Option.some.injEq];by_cases h:t=d<;>simp[h,eq_comm]
theorem pQ {t:Nat} {S S':Nat→Bool}:∀(l:List AO) (tr:Trace) (k:Nat) (e e':Env),(∀j o,l[j]?=some o→o.dst=some t→S (k+j)=S' (k+j))→e t=e' t→eF S k e l tr t=eF S' k e' l tr t
 |[],tr,k,e,e',h,he=>by simpa[eF]using he
 |_::_,[],k,e,e',h,he=>by simpa[eF]using he
 |o::os,(v,z)::tr,k,e,e',h,he=>by
  simp only[eF];refine pQ os tr (k+1) _ _ (fun j o' ho hd=>?_) ?_
  ·have:=h (j+1) o' (by simpa using ho) hd
   rwa[show k+(j+1)=k+1+j from by omega]at this
  ·by_cases hd:o.dst=some t
   ·have hS:S k=S' k:=h 0 o rfl hd
    rw[hS];cases S' k
    ·simpa using he
    ·simp[nN,hd]
   ·have e1:∀(b:Bool) (e:Env),(if b=true then bg e o.dst v else e) t=e t:=fun b e=>by cases b<;>simp[nN,hd]
    rw[e1,e1,he]
theorem K4 {S:Nat→Bool} {d:Nat} {u:au}:∀(l:List AO) (tr:Trace) (k:Nat) (e:Env),(∀j o,l[j]?=some o→S (k+j)=true→o.dst≠some d)→eF S k (upd e d u) l tr=upd (eF S k e l tr) d u
 |[],tr,k,e,h=>rfl
 |_::_,[],k,e,h=>rfl
 |o::os,(v,z)::tr,k,e,h=>by
  simp only[eF]
  have hs:(if S k=true then bg (upd e d u) o.dst v else upd e d u)=upd (if S k=true then bg e o.dst v else e) d u:=by
   cases hS:S k with
   |false=>simp
   |true=>
    have hd:=h 0 o rfl hS;simp only[if_true]
    funext t
    simp only[nN,upd]
    by_cases h1:o.dst=some t
    ·have:t≠d:=fun e=>hd (e▸h1)
     simp[h1,this]
    ·simp[h1]
  rw[hs];exact K4 os tr (k+1) _ fun j o' ho hSj=>h (j+1) o' (by simpa using ho) (by rwa[show k+(j+1)=k+1+j from by omega])
theorem OO {S S':Nat→Bool}:∀(l:List AO) (tr:Trace) (k:Nat) (e:Env),(∀j,k≤j→S j=S' j)→eF S k e l tr=eF S' k e l tr
 |[],tr,k,e,h=>rfl
 |_::_,[],k,e,h=>rfl
 |o::os,(v,z)::tr,k,e,h=>by
  simp only[eF];rw[h k (Nat.le_refl k)];exact OO os tr (k+1) _ fun j hj=>h j (by omega)
theorem OP {S:Nat→Bool} {v:au} {z:Option aU} {o:AO}:∀(l:List AO) (tr:Trace) (k i:Nat) (e:Env),l[i]?=some o→tr[i]?=some (v,z)→S (k+i)=false→
  (∀j o' d,l[j]?=some o'→i<j→S (k+j)=true→o.dst=some d→o'.dst≠some d)→eF (jK S (k+i)) k e l tr=bg (eF S k e l tr) o.dst v
 |[],tr,k,i,e,h,_,_,_=>by simp at h
 |_::_,[],k,i,e,_,h,_,_=>by simp at h
 |o'::os,(v',z')::tr,k,0,e,h,h',hS,hd=>by
  simp at h h';obtain⟨rfl,rfl⟩:=h';subst h;simp only[eF];have e1:jK S (k+0) k=true:=by simp[jK]
  have e2:S k=false:=hS;rw[e1,e2,OO (S:=jK S (k+0)) (S':=S) os tr (k+1) _ fun j hj=>by simp[jK];omega];simp only[if_true,Bool.false_eq_true,if_false]
  cases hdst:o'.dst with
  |none=>rfl
  |some d=>
   exact K4 os tr (k+1) e fun j o'' ho hSj=>hd (j+1) o'' d (by simpa using ho) (by omega) (by rwa[show k+(j+1)=k+1+j from by omega]) hdst
 |o'::os,(v',z')::tr,k,i+1,e,h,h',hS,hd=>by
  simp only[eF];rw[show k+(i+1)=k+1+i from by omega];have e1:jK S (k+1+i) k=S k:=by simp[jK];omega
  rw[e1]
  exact OP os tr (k+1) i _ (by simpa using h) (by simpa using h') (by rwa[show k+1+i=k+(i+1)from by omega]) fun j o'' d ho hj hSj hdd=>
   hd (j+1) o'' d (by simpa using ho) (by omega) (by rwa[show k+(j+1)=k+1+j from by omega]) hdd
def gQ (listed:Array Bool) (k:Nat):Bool:=listed.getD k false
theorem Kq {listed:Array Bool} {i:Nat} (hi:i<listed.size):gQ (listed.setIfInBounds i true)=jK (gQ listed) i:=by
 funext k
 by_cases h:k=i
 ·subst h;simp[gQ,jK,hi]
 ·have h':i≠k:=Ne.symm h
  simp[gQ,jK,h,Array.getElem?_setIfInBounds_ne h']
def unl (S:Nat→Bool):Nat→Nat
 |0=>0
 |m+1=>unl S m+if S m then 0 else 1
theorem RP (S:Nat→Bool):∀m,unl S m≤m
 |0=>Nat.le_refl 0
 |m+1=>by have:=RP S m;simp only[unl];split<;>omega
theorem RQ {S:Nat→Bool} {i:Nat}:∀m,m≤i→unl (jK S i) m=unl S m
 |0,_=>rfl
 |m+1,h=>by
  have h1:jK S i m=S m:=by simp[jK];omega
  have h2:=RQ (S:=S) (i:=i) m (by omega);simp only[unl,h1,h2]
theorem NV {S:Nat→Bool} {i:Nat} (hS:S i=false):∀m,i<m→unl (jK S i) m+1=unl S m
 |0,h=>absurd h (by omega)
 |m+1,h=>by
  simp only[unl]
  by_cases hm:i=m
  ·subst hm
   rw[RQ i (Nat.le_refl i)];simp[jK,hS]
  ·have ih:=NV hS m (by omega)
   have:jK S i m=S m:=by simp[jK];omega
   rw[this,←ih];omega
theorem Jd {S:Nat→Bool}:∀m,unl S m=0→∀k,k<m→S k=true
 |0,_,k,hk=>absurd hk (by omega)
 |m+1,h,k,hk=>by
  simp only[unl]at h
  by_cases hm:k=m
  ·subst hm
   cases hS:S k
   ·rw[hS]at h;simp at h
   ·rfl
  ·exact Jd m (by omega) k (by omega)
section
variable {ops : Array Oper} {abJ : List AO} {E : Nat → Bool}
theorem pR {cx lin:Bool} (h:oK cx lin ops abJ (masks ops.toList []) E=true) {j:Nat} {oj:Oper} (hj:ops[j]?=some oj):∃aj,abJ[j]?=some aj∧makes oj aj=true∧(∀e∈oj.after,Region.binds .any e=true→e.on<j)∧
  ∀i,i<ops.size→∃ai,abJ[i]?=some ai∧(match E j,E i with
   |true,true=>i<j→xS (masks ops.toList []) i j ai aj=true
   |false,false=>lin=true→i<j→waits (masks ops.toList []) j i=true
   |false,true=>waits (masks ops.toList []) j i=true∨nR cx ai aj=true
   |true,false=>True):=by
 have hlt:j<ops.size:=(Array.getElem?_eq_some_iff.1 hj).1;simp only[oK,List.all_eq_true,List.mem_range]at h;have h1:=h j hlt;rw[hj]at h1
 cases haj:abJ[j]? with
 |none=>simp only[haj]at h1;cases h1
 |some aj=>
  simp only[haj,Bool.and_eq_true,List.all_eq_true,List.mem_range]at h1;refine⟨aj,rfl,h1.1.1,fun e he hb=>?_,fun i hi=>?_⟩
  ·have:=h1.1.2 e (by simpa using he)
   rw[hb]at this;simpa using this
  ·have:=h1.2 i hi
   cases hai:abJ[i]? with
   |none=>simp only[hai]at this;cases this
   |some ai=>
    simp only[hai]at this;refine⟨ai,rfl,?_⟩;cases hEj:E j<;>cases hEi:E i<;>simp only[hEj,hEi]at this⊢
    ·intro hl hij
     rw[hl]at this;simp only[Bool.not_true,Bool.or_false,Bool.or_eq_true,decide_eq_true_eq]at this;exact this.resolve_left (by omega)
    ·simpa[Bool.or_eq_true]using this
    ·intro hij
     simp only[Bool.or_eq_true,decide_eq_true_eq]at this;exact this.resolve_left (by omega)
def Closed (ops:Array Oper) (S:Nat→Bool):Prop:=∀j o,ops[j]?=some o→S j=true→∀e∈o.after,Region.binds .any e=true→S e.on=true
theorem Gf {acc:List Nat} {i:Nat}:∀(es:List Edge) (m:Nat),(es.foldl (fun m e=>(m|||1<<<e.on)|||acc.getD e.on 0) m).testBit i=true→m.testBit i=true∨∃e∈es,i=e.on∨(acc.getD e.on 0).testBit i=true
 |[],m,h=>.inl h
 |e::es,m,h=>by
  rcases Gf es _ h with h1|⟨e',h2,h3⟩
  ·simp only[Nat.testBit_or,Bool.or_eq_true]at h1
   rcases h1 with(h1|h1)|h1
   ·exact .inl h1
   ·refine .inr ⟨e,by simp,.inl ?_⟩
    rw[Nat.one_shiftLeft]at h1;simpa[Nat.testBit_two_pow,eq_comm]using h1
   ·exact .inr ⟨e,by simp,.inr h1⟩
  ·exact .inr ⟨e',by simp[h2],h3⟩
theorem yX {S:Nat→Bool} (hc:Closed ops S):∀(os:List Oper) (acc:List Nat),ops.toList.drop acc.length=os→
  (∀j i,(acc.getD j 0).testBit i=true→(S j=true∨∃o,ops[j]?=some o∧∀e∈o.after,Region.binds .any e=true→S e.on=true)→S i=true)→
  ∀j i,waits (masks os acc) j i=true→(S j=true∨∃o,ops[j]?=some o∧∀e∈o.after,Region.binds .any e=true→S e.on=true)→S i=true
 |[],acc,hd,hacc,j,i,h,hj=>hacc j i h hj
 |o::os,acc,hd,hacc,j,i,h,hj=>by
  have ho:ops[acc.length]?=some o:=by
   have:(ops.toList.drop acc.length)[0]?=some o:=by rw[hd];rfl
   rw[List.getElem?_drop]at this;simpa using this
  refine yX hc os (acc ++[(o.after.toList.filter fun e=>Region.binds .any e).foldl (fun m e=>(m|||1<<<e.on)|||acc.getD e.on 0) 0]) ?_ (fun j' i' h' hj'=>?_) j i h hj
  ·have:(ops.toList.drop acc.length).drop 1=os:=by rw[hd];rfl
   rw[List.drop_drop]at this;simpa using this
  ·rcases Nat.lt_trichotomy j' acc.length with hlt|heq|hgt
   ·have e1:(acc ++[(o.after.toList.filter fun e=>Region.binds .any e).foldl (fun m e=>(m|||1<<<e.on)|||acc.getD e.on 0) 0]).getD j' 0=acc.getD j' 0:=by
     simp only[List.getD_eq_getElem?_getD,List.getElem?_append_left hlt]
    rw[e1]at h';exact hacc j' i' h' hj'
   ·subst heq
    have e1:(acc ++[(o.after.toList.filter fun e=>Region.binds .any e).foldl (fun m e=>(m|||1<<<e.on)|||acc.getD e.on 0) 0]).getD acc.length 0=(o.after.toList.filter fun e=>Region.binds .any e).foldl (fun m e=>(m|||1<<<e.on)|||acc.getD e.on 0) 0:=by
     simp[List.getD_eq_getElem?_getD]
    rw[e1]at h';rcases Gf _ _ h' with h1|⟨e,h2,h3⟩
    ·simp at h1
    ·simp only[List.mem_filter]at h2
     have hon:S e.on=true:=by
      rcases hj' with hj'|⟨o',ho',hall⟩
      ·exact hc _ o ho hj' e (by simpa using h2.1) h2.2
      ·rw[ho]at ho';cases ho';exact hall e (by simpa using h2.1) h2.2
     rcases h3 with rfl|h3
     ·exact hon
     ·exact hacc e.on i' h3 (.inl hon)
   ·have e1:(acc ++[(o.after.toList.filter fun e=>Region.binds .any e).foldl (fun m e=>(m|||1<<<e.on)|||acc.getD e.on 0) 0]).getD j' 0=0:=by
     simp only[List.getD_eq_getElem?_getD];rw[List.getElem?_eq_none (by simp;omega)];rfl
    rw[e1]at h';simp at h'
theorem Er {S:Nat→Bool} (hc:Closed ops S) (j:Nat) (hj:S j=true∨∃o,ops[j]?=some o∧∀e∈o.after,Region.binds .any e=true→S e.on=true) (i:Nat) (hi:waits (masks ops.toList []) j i=true):S i=true:=
 yX hc ops.toList [] (by simp) (fun j i h=>by simp at h) j i hi hj
theorem Qk {cx lin:Bool} (hd:oK cx lin ops abJ (masks ops.toList []) E=true) {listed:Array Bool} (hr:Region.ready .any ops listed=[]) (hsz:listed.size=ops.size):∀j,j<ops.size→gQ listed j=true:=by
 intro j
 induction j using Nat.strongRecOn with
 |ind j ih=>
  intro hj
  cases hon:gQ listed j with
  |true=>rfl
  |false=>
   have ho:ops[j]?=some ops[j]:=Array.getElem?_eq_getElem hj;obtain⟨aj,_,_,h2,_⟩:=pR hd ho
   have:j∈Region.ready .any ops listed:=mem_ready.2 ⟨by
    simp only[gQ]at hon;simp[hsz,hj]at hon⊢
    exact hon,_,ho,fun e he hb=>ih e.on (h2 e he hb) (by have:=h2 e he hb;omega)⟩
   rw[hr]at this;cases this
theorem zW {j:Nat} {listed:Array Bool} (h:j∈Region.ready .any ops listed) (hsz:listed.size=ops.size):gQ listed j=false∧j<ops.size∧∃o,ops[j]?=some o∧∀e∈o.after,Region.binds .any e=true→gQ listed e.on=true:=by
 obtain⟨h1,o,h2,h3⟩:=mem_ready.1 h;have hlt:j<ops.size:=(Array.getElem?_eq_some_iff.1 h2).1;refine⟨?_,hlt,o,h2,h3⟩;simp[gQ,hsz,hlt]at h1⊢;exact h1
theorem Closed.add {listed:Array Bool} (hc:Closed ops (gQ listed)) (hsz:listed.size=ops.size) {j:Nat} (hj:j∈Region.ready .any ops listed):Closed ops (gQ (listed.setIfInBounds j true)):=by
 obtain⟨h1,h2,o,h3,h4⟩:=zW hj hsz;rw[Kq (by omega)];intro k ok hk hS e he hb
 by_cases hkj:k=j
 ·subst hkj
  rw[h3]at hk;cases hk;simp[jK,h4 e he hb]
 ·have:gQ listed k=true:=by simpa[jK,hkj]using hS
  simp[jK,hc k ok hk this e he hb]
end
theorem St.put (h:St L g w H) {b id:Nat} {ob:aU} {s:ko} (hid:H[id]?=some .dead) (hs:s.b=b) (hbw:b<w.heap.size) (hn:∀id o s,H[id]?=some o→o.alive=true→g.ob id o.ver=some s→s.b≠b)
  (hok:kN L (g.dW id ob.ver s) w id ob):g.le (g.dW id ob.ver s)∧St L (g.dW id ob.ver s) w (H.set id ob):=by
 have hlt:id<H.length:=by
  rcases Nat.lt_or_ge id H.length with h'|h'
  ·exact h'
  ·rw[List.getElem?_eq_none h']at hid;cases hid
 have hnone:g.ob id ob.ver=none:=h.obj id _ hid _;have hle:g.le (g.dW id ob.ver s):=aA.jN hnone s
 have hget:∀(i:Nat) (o:aU),(H.set id ob)[i]?=some o→(i≠id∧H[i]?=some o)∨(i=id∧o=ob):=by
  intro i o hi
  by_cases hii:i=id
  ·subst hii;simp[hlt]at hi;exact .inr ⟨rfl,hi.symm⟩
  ·rw[List.getElem?_set_ne (Ne.symm hii)]at hi;exact .inl ⟨hii,hi⟩
 refine⟨hle,h.fz,fun i o ho=>?_,fun i v hv=>?_,fun i v s' hs'=>?_,fun i j o o' s1 s2 hi hj ha ha' h1 h2 hb=>?_,h.below,h.bs,h.fact,h.kp,h.dk⟩
 ·rcases hget i o ho with⟨hii,ho⟩|⟨rfl,rfl⟩
  ·exact(h.obj i o ho).keep hle (fun v=>aA.dN g _ _ s hii) fun _ _ _=>⟨rfl,fun _=>rfl⟩
  ·exact hok
 ·simp at hv
  rw[aA.dN g _ _ s (by omega)];exact h.new i v hv
 ·simp only[aA.dW]at hs'
  split at hs'
  ·cases hs';omega
  ·exact h.bnd _ _ _ hs'
 ·rcases hget i o hi with⟨hii,hi'⟩|⟨rfl,rfl⟩<;>rcases hget j o' hj with⟨hjj,hj'⟩|⟨rfl,rfl⟩
  ·rw[aA.dN g _ _ s (by omega)]at h1 h2
   exact h.inj i j o o' s1 s2 hi' hj' ha ha' h1 h2 hb
  ·rw[aA.dN g _ _ s (by omega)]at h1
   rw[aA.bF]at h2;cases h2;exact absurd (hb.trans hs) (hn i o s1 hi' ha h1)
  ·rw[aA.dN g _ _ s (by omega)]at h2
   rw[aA.bF]at h1;cases h1;exact absurd (hb.symm.trans hs) (hn j o' s2 hj' ha' h2)
  ·rfl
theorem St.Pt (h:St L g w H) {id:Nat} (hid:H[id]?=some .dead) (vs:Array Value) (t:Nat) (cs:List au) (hr:aX L g vs.toList cs):
  ∃g',g.le g'∧St L g' (w.alloc (.cells vs (L.ty t))) (H.set id (.cells cs t))∧Rep L g' (.pointer (some ⟨w.heap.size,0,none⟩)) (.ptr id 0):=by
 have h1:=h.alloc (.cells vs (L.ty t));have hnone:g.ob id 0=none:=h.obj id _ hid _
 let s:ko:=⟨w.heap.size,0,vs.size,0⟩
 have hle:g.le (g.dW id 0 s):=aA.jN hnone s
 obtain⟨k1,k2⟩:=h1.put (b:=w.heap.size) (ob:=.cells cs t) (s:=s) hid rfl (by rw[cO];omega) h.new_ne
  ⟨s,vs,aA.bF ..,rfl,dG ..,hr.mono hle,h.oH,h.jG⟩
 exact⟨_,k1,k2,.ptr id 0 s (aA.bF ..) rfl⟩
theorem Yq {o:Oper} {ao:AO} {zs:List au} {tt:Nat} (hm:makes o ao=true) (ha:ao.op=.alloc zs tt) (hq:cOp T o=some ao.op) (hs:St T.L g w H) {id:Nat} (hid:H[id]?=some .dead) {ρ:Operand→Value}:
    Good T.L g (fun v H'=>v=.ptr id 0∧H'=H.set id (.cells zs tt)) (fun _ _=>False) ((execOp ρ o).run T.L.P w):=by
  rw[ha]at hq;simp only[makes,ha]at hm;split at hm
  · rename_i t hop
    simp only[cOp,hop]at hq;simp only[execOp,hop]
    cases hi:T.L.P.info? t with
    |none=>simp only[hi]at hq;cases hq
    |some i=>
     cases htt:T.ty t with
     |none=>simp only[hi,htt]at hq;cases hq
     |some t'=>
      simp only[hi,htt]at hq
      cases hz:i.zero with
      |none=>simp only[hz]at hq;cases hq
      |some z=>
        simp only[hz]at hq;obtain⟨zs',h1,hh⟩:=map_some hq;simp only[AOp.alloc.injEq]at hh;obtain⟨rfl,rfl⟩:=hh;have hrep:aX T.L g z.cells.toList zs:=qA h1;obtain⟨g',k1,k2,k3⟩:=hs.Pt hid z.cells tt zs hrep;rw[Tab.w9 htt]at k2;refine bq (w':=w.alloc (.cells z.cells t)) (v:=.pointer (some ⟨w.heap.size,0,none⟩)) ?_ ⟨_,_,g',⟨rfl,rfl⟩,k1,k2,k3⟩;unfold Instr.alloc;simp[zeroValue,typeInfo,hi,hz,newVar,newRow]
  · cases hm
theorem Pt {o:Oper} {ao:AO} {x:AX} {tt:Nat} (hm:makes o ao=true) (ha:ao.op=.box tt x) (hq:cOp T o=some ao.op) (hs:St T.L g w H) (hr:dR T.L g n a.tmps e) (h1:(ev e x).cells.all uJ=true) {id:Nat} (hid:H[id]?=some .dead):
  Good T.L g (fun v H'=>v=.ptr id 0∧H'=H.set id (.cells (ev e x).cells tt)) (fun _ _=>False) ((execOp a.eval o).run T.L.P w):=by
 rw[ha]at hq;simp only[makes,ha]at hm;split at hm
 ·rename_i t y hop
  simp only[cOp,hop]at hq;cases htt:T.ty t<;>cases h2:cX T y<;>simp only[htt,h2]at hq<;>try(cases hq;done)
  rename_i t' ax;simp only[Option.some.injEq,AOp.box.injEq]at hq;obtain⟨rfl,rfl⟩:=hq;simp only[execOp,hop];have hrep:=pJ (bQ h2 hr) h1;obtain⟨g',k1,k2,k3⟩:=hs.Pt hid (a.eval y).cells _ _ hrep;rw[Tab.w9 htt]at k2;refine bq (w':=w.alloc (.cells (a.eval y).cells t)) (v:=.pointer (some ⟨w.heap.size,0,none⟩)) ?_ ⟨_,_,g',⟨rfl,rfl⟩,k1,k2,k3⟩;unfold Instr.box;simp[newVar,newRow]
 ·cases hm
def dummy :AO:={dst:=none,op:=.mv (.const .undef),guard:=none}
def dx (E:Nat→Bool):Nat→List AO→List AO
 |_,[]=>[]
 |k,o::os=>(if E k then o else dummy)::dx E (k+1) os
theorem Dq {E:Nat→Bool}:∀(l:List AO) (k i:Nat) (o:AO),(dx E k l)[i]?=some o→∃o',l[i]?=some o'∧o=(if E (k+i)then o' else dummy)
 |[],k,i,o,h=>by simp[dx]at h
 |o'::os,k,0,o,h=>by simp[dx]at h;exact⟨o',rfl,h.symm⟩
 |o'::os,k,i+1,o,h=>by
  have:=Dq os (k+1) i o (by simpa[dx]using h);rw[show k+1+i=k+(i+1)from by omega]at this;simpa using this
theorem Dp {E:Nat→Bool}:∀(l:List AO) (k i:Nat) (o:AO),l[i]?=some o→E (k+i)=true→(dx E k l)[i]?=some o
 |[],k,i,o,h,_=>by simp at h
 |o'::os,k,0,o,h,hE=>by
  simp at h;subst h;have:E k=true:=hE;simp[dx,this]
 |o'::os,k,i+1,o,h,hE=>by
  simp only[dx,List.getElem?_cons_succ];exact Dp os (k+1) i o (by simpa using h) (by rwa[show k+1+i=k+(i+1)from by omega])
theorem Aa {E:Nat→Bool}:∀(l:List AO) (k:Nat),(dx E k l).length=l.length
 |[],k=>rfl
 |o::os,k=>by simp[dx,Aa os (k+1)]
theorem nk {L:Lnk} {E:Nat→Bool} {H0:Heap} {K:Env→Heap→Prop}:∀(l:List AO) (k:Nat) (e:Env) (H:Heap),iA L H0 (oJ E k l) e H K→iA L H0 (dx E k l) e H K
 |[],k,e,H,h=>h
 |o::os,k,e,H,h=>by
  simp only[oJ]at h;simp only[dx]
  cases hE:E k with
  |false=>
   simp only[hE,Bool.false_eq_true,if_false]at h⊢;exact nk os (k+1) e H h
  |true=>
   simp only[hE,if_true]at h⊢;simp only[iA]at h⊢
   cases hg:o.guard with
   |none=>simp only[hg]at h⊢;exact iX (fun v H' h=>nk os (k+1) _ _ h) h
   |some p=>
    obtain⟨t,want⟩:=p;simp only[hg]at h⊢;cases he:e t<;>simp only[he]at h⊢
    ·rename_i b
     cases want<;>cases b<;>first|exact iX (fun v H' h=>nk os (k+1) _ _ h) h|exact nk os (k+1) _ _ h
    ·rename_i vs
     cases vs with
     |nil=>exact nk os (k+1) _ _ h
     |cons=>exact False.elim h
theorem mD {E:Nat→Bool}:∀(l:List AO) (k:Nat) (p:Nat×AO),p∈kK E k l↔∃i,p.1=k+i∧l[i]?=some p.2∧E (k+i)=false
 |[],k,p=>by simp[kK]
 |o::os,k,p=>by
  have ih:=mD (E:=E) os (k+1) p
  have hsplit:(∃i,p.1=k+i∧(o::os)[i]?=some p.2∧E (k+i)=false)↔((p=(k,o)∧E k=false)∨∃i,p.1=k+1+i∧os[i]?=some p.2∧E (k+1+i)=false):=by
   constructor
   ·rintro⟨i,h1,h2,h3⟩
    cases i with
    |zero=>
     simp at h2;exact .inl ⟨Prod.ext h1 h2.symm,h3⟩
    |succ i=>exact .inr ⟨i,by omega,by simpa using h2,by rwa[show k+1+i=k+(i+1)from by omega]⟩
   ·rintro(⟨rfl,h⟩|⟨i,h1,h2,h3⟩)
    ·exact⟨0,rfl,rfl,h⟩
    ·exact⟨i+1,by omega,by simpa using h2,by rwa[show k+(i+1)=k+1+i from by omega]⟩
  rw[hsplit,←ih];simp only[kK];cases hE:E k<;>simp
theorem uq {E:Nat→Bool}:∀(l:List AO) (k:Nat),(kK E k l).Pairwise (fun p q=>p.1<q.1)
 |[],k=>.nil
 |o::os,k=>by
  simp only[kK];split
  ·exact uq os (k+1)
  ·refine .cons (fun q hq=>?_) (uq os (k+1))
   obtain⟨i,h1,_⟩:=(mD os (k+1) q).1 hq;show k<q.1;omega
def iL (U:List (Option Nat×au)) (e:Env):Env:=U.foldl (fun e p=>bg e p.1 p.2) e
theorem DC {t:Nat}:∀(U:List (Option Nat×au)) (e e':Env),e t=e' t→iL U e t=iL U e' t
 |[],e,e',h=>h
 |p::U,e,e',h=>by
  simp only[iL,List.foldl_cons];exact DC U _ _ (by simp[nN,h])
theorem xU {t:Nat}:∀(U:List (Option Nat×au)) (e:Env),(∀p∈U,p.1≠some t)→iL U e t=e t
 |[],e,h=>rfl
 |p::U,e,h=>by
  simp only[iL,List.foldl_cons];have:=xU U (bg e p.1 p.2) (fun q hq=>h q (by simp[hq]));rw[iL]at this;rw[this,nN,if_neg (h p (by simp))]
theorem Qy {d:Option Nat} {v:au} (U:List (Option Nat×au)) (e:Env) (h:∀p∈U,∀t,d=some t→p.1≠some t):iL U (bg e d v)=bg (iL U e) d v:=by
 funext t
 rw[nN]
 by_cases hd:d=some t
 ·rw[if_pos hd,xU U _ fun p hp=>h p hp t hd,nN,if_pos hd]
 ·rw[if_neg hd]
  exact DC U _ _ (by rw[nN,if_neg hd])
theorem Dz (U:List (Option Nat×au)) (e:Env) (p:Option Nat×au):iL (U ++[p]) e=bg (iL U e) p.1 p.2:=by simp[iL]
theorem agree.IZ {n id:Nat} {H0 H:Heap} (ha:agree n H0 H) (h1:H[id]?=some .dead) (o:aU):agree n H0 (H.set id o):=
 ⟨by have:=ha.1;simpa using this,fun i ob hi ho hm hd=>by
  have h2:=ha.2 i ob hi ho hm hd;rw[List.getElem?_set_ne]
  ·exact h2
  ·rintro rfl
   rw[h1]at h2
   exact hd (Option.some.inj h2).symm⟩
theorem M6 {L:Lnk} {q:AOp} (hq:Iu q=true) {e:Env} {n:Nat} {H0 H:Heap} (ha:agree n H0 H) {K KP:au→Heap→Prop} (h:aF L q e H K KP):
  aF L q e H (fun v H'=>K v H'∧agree n H0 H') KP:=by
 have push:∀o,agree n H0 (H ++[o]):=fun o=>⟨by have:=ha.1;simp;omega,fun i ob hi ho hm hd=>by
  have h1:=ha.2 i ob hi ho hm hd;rw[List.getElem?_append_left]
  ·exact h1
  ·have:=ha.1;omega⟩
 by_cases hl:dX q=true
 ·obtain⟨v,h1,h2⟩:=light hl h
  exact h2 H _ _ ⟨h1,ha⟩
 ·cases q<;>first|(cases hq;done)|(exact absurd rfl hl)|skip
  case alloc z t=>exact⟨h,push _⟩
  case box t x=>exact⟨h.1,h.2,push _⟩
  case load k a=>
   simp only[aF]at h⊢
   cases hld:loadAt H k (ev e a)with
   |none=>simp only[hld]at h
   |some v=>simp only[hld]at h⊢;exact⟨h,ha⟩
  case mkMap=>exact⟨h,push _⟩
  case look kk z ok m k=>
   simp only[aF]at h⊢
   cases hl:mq kk z ok H (ev e m) (ev e k)with
   |none=>simp only[hl]at h
   |some v=>simp only[hl]at h⊢;exact⟨h,ha⟩
  case uo m=>
   simp only[aF]at h⊢
   cases hl:uo H (ev e m)with
   |none=>simp only[hl]at h
   |some v=>simp only[hl]at h⊢;exact⟨h,ha⟩
  case oG it=>
   simp only[aF]at h⊢
   cases hl:x9 H (ev e it)with
   |none=>simp only[hl]at h
   |some v=>simp only[hl]at h⊢;exact⟨h,ha⟩
  case append k bytes t s x=>
   simp only[aF]at h⊢;unfold lH at h⊢;generalize ev e s=vs_ at h⊢;generalize ev e x=vx at h⊢;cases vs_<;>cases vx<;>try exact h.elim
   case vec.lst id ver k' off len ys tk'=>
    dsimp only at h⊢;refine⟨h.1,h.2.1,h.2.2.1,h.2.2.2.1,?_⟩;replace h:=h.2.2.2.2
    cases hH:H[id]? with
    |none=>rw[hH]at h;exact h.elim
    |some o=>
     cases o<;>simp only[hH]at h⊢;obtain⟨h0,nv,h2,h3⟩:=h;refine⟨h0,nv,h2,h3,by have:=ha.1;simpa using this,fun i ob hi ho hm hd=>?_⟩;have h1:=ha.2 i ob hi ho hm hd;rw[List.getElem?_set_ne]
     ·exact h1
     ·rintro rfl
      rw[hH]at h1;exact hm.2 _ _ _ (Option.some.inj h1).symm
   rename_i xs tk ys tk';dsimp only at h⊢;refine⟨h.1,h.2.1,h.2.2.1,h.2.2.2.1,?_⟩;replace h:=h.2.2.2.2
   by_cases hy:ys=[]
   ·rw[if_pos hy]at h⊢;exact⟨h,ha⟩
   ·rw[if_neg hy]at h⊢
    cases tk with
    |tail id=>
     dsimp only at h⊢
     cases hH:H[id]? with
     |none=>rw[hH]at h;exact h.elim
     |some o=>
      cases o<;>simp only[hH]at h⊢;refine⟨h.1,h.2,by have:=ha.1;simpa using this,fun i ob hi ho hm hd=>?_⟩;have h1:=ha.2 i ob hi ho hm hd;rw[List.getElem?_set_ne]
      ·exact h1
      ·rintro rfl
       rw[hH]at h1;exact hm.1 _ _ (Option.some.inj h1).symm
    |none=>exact h.elim
    |nil=>exact h.imp (fun h=>⟨h,push _⟩) fun h=>h.imp (fun⟨id,h1,h2⟩=>⟨id,h1,h2,ha.IZ h1 _⟩) fun h=>h.imp (fun⟨id,h1,h2⟩=>⟨id,h1,h2,ha.IZ h1 _⟩) fun h=>⟨h,push _⟩
    |full=>exact h.imp (fun h=>⟨h,push _⟩) fun h=>h.imp (fun⟨id,h1,h2⟩=>⟨id,h1,h2,ha.IZ h1 _⟩) fun h=>h.imp (fun⟨id,h1,h2⟩=>⟨id,h1,h2,ha.IZ h1 _⟩) fun h=>⟨h,push _⟩
  case jY bytes t s x=>
   simp only[aF]at h⊢;unfold Gy at h⊢;generalize ev e s=vs_ at h⊢;generalize ev e x=vx at h⊢;cases vs_<;>cases vx<;>try exact h.elim
   rename_i xs tk ys;dsimp only at h⊢;refine⟨h.1,h.2.1,h.2.2.1,?_⟩;replace h:=h.2.2.2
   by_cases hy:ys=[]
   ·rw[if_pos hy]at h⊢;exact⟨h,ha⟩
   ·rw[if_neg hy]at h⊢
    cases tk with
    |tail id=>
     dsimp only at h⊢
     cases hH:H[id]? with
     |none=>rw[hH]at h;exact h.elim
     |some o=>
      cases o<;>simp only[hH]at h⊢;refine⟨h.1,h.2,by have:=ha.1;simpa using this,fun i ob hi ho hm hd=>?_⟩;have h1:=ha.2 i ob hi ho hm hd;rw[List.getElem?_set_ne]
      ·exact h1
      ·rintro rfl
       rw[hH]at h1;exact hm.1 _ _ (Option.some.inj h1).symm
    |none=>exact h.elim
    |nil=>exact⟨h,push _⟩
    |full=>exact⟨h,push _⟩
section
variable {ops : Array Oper} {abJ : List AO} {E : Nat → Bool} {g0 : aA} {Q : Exit → Act → World → Prop} {K : Env → Heap → Prop} {KP : au → Heap → Prop}
theorem CW {H P:Heap} {c:Nat} {x:aU}:(H ++P).set (H.length+c) x=H ++P.set c x:=by
 rw[List.set_append_right _ _ (by omega)];simp
theorem Vv {L:Lnk} {H0:Heap}:∀(l:List AO) (tr:Trace) (e:Env) (len:Nat),Tr L H0 l tr e len→tr.length=l.length
 |[],[],_,_,_=>rfl
 |[],_::_,_,_,h=>h.elim
 |_::_,[],_,_,h=>h.elim
 |o::os,(v,z)::tr,e,len,h=>by simp[Vv os tr _ _ h.2]
theorem yR {S S':Nat→Bool}:∀(tr:Trace) (k:Nat),(∀j v zs,tr[j]?=some (v,some zs)→S (k+j)=S' (k+j))→pad S k tr=pad S' k tr
 |[],k,h=>rfl
 |(v,none)::tr,k,h=>by
  simp only[pad];exact yR tr (k+1) fun j u zs hj=>by have:=h (j+1) u zs (by simpa using hj);rwa[show k+(j+1)=k+1+j from by omega]at this
 |(v,some zs)::tr,k,h=>by
  simp only[pad];have h0:S k=S' k:=h 0 v zs rfl;rw[h0]
  congr 1
  exact yR tr (k+1) fun j u zs hj=>by have:=h (j+1) u zs (by simpa using hj);rwa[show k+(j+1)=k+1+j from by omega]at this
def Still (H0 H:Heap) (e:Env) (q:AOp):Prop:=∃k a,q=.load k a∧∀v,loadAt H0 k (ev e a)=some v→qU H0.length (ev e a)=true→loadAt H k (ev e a)=some v
theorem SL {H:Heap} {n:Nat} {k:Option Nat} {a v:au} (hp:qU n a=true) (h:loadAt H k a=some v):qU H.length a=true:=by
 have key:∀m c,fI H a m=some c→qU H.length a=true:=fun m c hc=>by
  cases a<;>simp only[fI]at hc<;>first|(cases hc;done)|rfl|(cases hp;done)|skip
  rename_i id off
  cases ho:H[id]? with
  |none=>rw[ho]at hc;cases hc
  |some o=>
   rcases Nat.lt_or_ge id H.length with h'|h'
   ·simp[qU,h']
   ·rw[List.getElem?_eq_none h']at ho;cases ho
 unfold loadAt at h
 cases k with
 |none=>dsimp only at h;cases hc:fI H a 1 with
  |none=>rw[hc]at h;cases h
  |some c=>exact key _ _ hc
 |some k=>dsimp only at h;cases hc:fI H a k with
  |none=>rw[hc]at h;cases h
  |some c=>exact key _ _ hc
theorem M0 {n id:Nat} {H:Heap} {o:aU} (hn:n≤id) {k:Option Nat} {a:au} (hp:qU n a=true):loadAt (H.set id o) k a=loadAt H k a:=by
 have key:∀m,fI (H.set id o) a m=fI H a m:=fun m=>by
  cases a<;>try rfl
  case jv=>cases hp
  rename_i id' off;have:id'<n:=by simpa[qU]using hp
  simp only[fI];rw[List.getElem?_set_ne (by omega)]
 unfold loadAt;cases k<;>simp only[key]
theorem agree.trans {n:Nat} {H0 H H':Heap} (h:agree n H0 H) (h':agree H.length H H'):agree n H0 H':=
 ⟨Nat.le_trans h.1 h'.1,fun i o hi ho hm hd=>h'.2 i o (by have:=h.1;omega) (h.2 i o hi ho hm hd) hm hd⟩
theorem agree.refl (H:Heap):agree H.length H H:=⟨Nat.le_refl _,fun _ _ _ h _ _=>h⟩
theorem Still.keep {H0 H H':Heap} {e:Env} {q:AOp} (h:Still H0 H e q) (ha:agree H.length H H'):Still H0 H' e q:=by
 obtain⟨k,a,e1,h1⟩:=h;exact⟨k,a,e1,fun v hv hp=>y5 ha (SL hp (h1 v hv hp)) (h1 v hv hp)⟩
theorem Still.set {H0 H:Heap} {e:Env} {q:AOp} (h:Still H0 H e q) {id:Nat} (hid:H0.length≤id) (o:aU):Still H0 (H.set id o) e q:=by
 obtain⟨k,a,e1,h1⟩:=h;exact⟨k,a,e1,fun v hv hp=>by rw[M0 hid hp];exact h1 v hv hp⟩
theorem MZ (h:uj abJ E=true) {i j:Nat} {oi oj:AO} {d:Nat} (hi:abJ[i]?=some oi) (hj:abJ[j]?=some oj) (hE:E i=true) (hl:isLoad oi.op=true) (hij:i≤j) (hEj:E j=true) (hd:oj.dst=some d):d∉oi.looks:=by
 have lt:∀{k:Nat} {o:AO},abJ[k]?=some o→k<abJ.length:=fun{k o} hk=>by
  rcases Nat.lt_or_ge k abJ.length with h'|h'
  ·exact h'
  ·rw[List.getElem?_eq_none h']at hk;cases hk
 simp only[uj,List.all_eq_true,List.mem_range]at h;have h1:=h i (lt hi);simp only[hi,hE,hl,Bool.and_self,Bool.not_true,Bool.false_or,List.all_eq_true,List.mem_range]at h1;have h2:=h1 j (lt hj);simp only[hj,hEj,hd,Bool.not_true,Bool.or_false,Bool.or_eq_true,decide_eq_true_eq]at h2;have h3:=h2.resolve_left (by omega);simpa using h3
theorem H7 {S:Nat→Bool}:∀(tr:Trace) (k:Nat) (o:aU),o∈pad S k tr→o=.dead∨∃(j:Nat) (v:au),tr[j]?=some (v,some o)
 |[],k,o,h=>by cases h
 |(v,none)::tr,k,o,h=>by
  rcases H7 tr (k+1) o h with h|⟨j,u,h⟩
  ·exact .inl h
  ·exact .inr ⟨j+1,u,h⟩
 |(v,some zs)::tr,k,o,h=>by
  simp only[pad,List.mem_cons]at h;rcases h with h|h
  ·split at h
   ·subst h;exact .inr ⟨0,v,rfl⟩
   ·exact .inl h
  ·rcases H7 tr (k+1) o h with h|⟨j,u,h⟩
   ·exact .inl h
   ·exact .inr ⟨j+1,u,h⟩
theorem EY {L:Lnk} {o:AO} {e:Env} {H0:Heap} {len:Nat} {v:au} {zs:aU} (h:kW L o e H0 len v (some zs)):∃cs t,zs=.cells cs t:=by
 have key:qE L o.op e H0 len v (some zs)→∃cs t,zs=.cells cs t:=fun hf=>by
  rcases hf.2 with⟨cs,t,_,h1⟩|⟨x,t,_,h1,_⟩
  ·exact⟨cs,t,h1⟩
  ·exact⟨_,t,h1⟩
 unfold kW at h
 cases hg:o.guard with
 |none=>rw[hg]at h;exact key h
 |some p=>
  obtain⟨t,want⟩:=p;rw[hg]at h;rcases h with⟨b,_,h⟩|⟨_,_,h⟩
  ·rcases h with⟨_,h⟩|⟨_,_,h⟩
   ·exact key h
   ·cases h
  ·cases h
theorem K5 {H0 A B:Heap} (hA:∀o∈A,∀es c,o≠.map es c) {m:au} {es:List (au×au×Nat)} (h:lG (H0 ++A) m=some es):lG (H0 ++B) m=some es:=by
 unfold lG at h⊢;cases m<;>try exact h
 rename_i id;dsimp only at h⊢;rcases Nat.lt_or_ge id H0.length with hlt|hge
 ·rw[List.getElem?_append_left hlt]at h⊢;exact h
 ·rw[List.getElem?_append_right hge]at h
  cases ho:A[id-H0.length]? with
  |none=>rw[ho]at h;cases h
  |some o=>
   rw[ho]at h;cases o<;>first|(cases h;done)|exact absurd rfl (hA _ (List.mem_of_getElem? ho) _ _)
theorem Sk {L:Lnk} {q:AOp} (hq:Cb q=true) {e:Env} {H0 A B:Heap} (hA:∀o∈A,∀es c,o≠.map es c) {K KP:au→Heap→Prop} (h:aF L q e (H0 ++A) K KP):
  ∃v,K v (H0 ++A)∧∀K' KP',K' v (H0 ++B)→aF L q e (H0 ++B) K' KP':=by
 by_cases hl:dX q=true
 ·obtain⟨v,h1,h2⟩:=light hl h
  exact⟨v,h1,fun K' KP' hk=>h2 _ _ _ hk⟩
 ·cases q<;>first|(cases hq;done)|(exact absurd hq hl)|skip
  case look kk z ok m k=>
   simp only[aF,mq]at h⊢
   cases he:lG (H0 ++A) (ev e m)with
   |none=>simp only[he]at h
   |some es=>
    simp only[he]at h;simp only[K5 (B:=B) hA he]
    cases hf:qy kk (ev e k) es 0 with
    |none=>simp only[hf,Option.map_none]at h
    |some r=>simp only[hf,Option.map_some]at h⊢;exact⟨_,h,fun _ _ hk=>hk⟩
  case uo m=>
   simp only[aF,uo]at h⊢
   cases he:lG (H0 ++A) (ev e m)with
   |none=>simp only[he,Option.map_none]at h
   |some es=>
    simp only[he,Option.map_some]at h;simp only[K5 (B:=B) hA he,Option.map_some];exact⟨_,h,fun _ _ hk=>hk⟩
theorem YN {L:Lnk} {d0:Env} {G0:Heap} {M:List Nat} {E:Nat→Bool} {abJ:List AO} {n:Nat} {rem:List (Nat×AO)} {e:Env} {H:Heap} {K:Env→Heap→Prop} {KP:au→Heap→Prop} (h:xlt L d0 G0 (mkT M E abJ (n+1) rem) e H K KP) {i:Nat} {o:AO} (hi:(i,o)∈rem) (hf:lg M rem i=true):
  match o.guard with
  |none=>aF L o.op e H (fun v H'=>jU (qK M E abJ i o.op) d0 G0 H' (xlt L d0 G0 (mkT M E abJ n (rem.filter fun r=>r.1 !=i)) (bg e o.dst v) H' K KP)) KP
  |some (s,want)=>match e s with
   |.bool b=>match want,b with
    |true,true=>aF L o.op e H (fun v H'=>jU (qK M E abJ i o.op) d0 G0 H' (xlt L d0 G0 (mkT M E abJ n (rem.filter fun r=>r.1 !=i)) (bg e o.dst v) H' K KP)) KP
    |false,false=>aF L o.op e H (fun v H'=>jU (qK M E abJ i o.op) d0 G0 H' (xlt L d0 G0 (mkT M E abJ n (rem.filter fun r=>r.1 !=i)) (bg e o.dst v) H' K KP)) KP
    |true,false=>xlt L d0 G0 (mkT M E abJ n (rem.filter fun r=>r.1 !=i)) (bg e o.dst (.tup [])) H K KP
    |false,true=>xlt L d0 G0 (mkT M E abJ n (rem.filter fun r=>r.1 !=i)) (bg e o.dst (.tup [])) H K KP
   |.tup []=>xlt L d0 G0 (mkT M E abJ n (rem.filter fun r=>r.1 !=i)) (bg e o.dst (.tup [])) H K KP
   |_=>False:=by
 cases rem with
 |nil=>cases hi
 |cons q rem=>
  simp only[mkT]at h;generalize q::rem=all at h hf hi⊢
  have key:∀l:List (Nat×AO),(i,o)∈l→xlt L d0 G0 (l.foldr (fun p acc=>if lg M all p.1 then .alt p.2 (qK M E abJ p.1 p.2.op) (mkT M E abJ n (all.filter fun r=>r.1 !=p.1)) acc else acc) .stop) e H K KP→xlt L d0 G0 (.alt o (qK M E abJ i o.op) (mkT M E abJ n (all.filter fun r=>r.1 !=i)) .stop) e H K KP:=by
   intro l
   induction l with
   |nil=>intro h;cases h
   |cons p l ih=>
    intro hm hx;rw[List.foldr_cons]at hx;rcases List.mem_cons.1 hm with rfl|hm
    ·rw[if_pos hf]at hx
     simp only[xlt]at hx⊢;exact qZ hx
    ·split at hx
     ·exact ih hm (by simp only[xlt]at hx;exact yV uN hx)
     ·exact ih hm hx
  have:=key all hi h;simp only[xlt]at this;exact qZ this
theorem NQ {L:Lnk} {d0:Env} {G0:Heap} {M:List Nat} {E:Nat→Bool} {abJ:List AO} {K:Env→Heap→Prop} {KP:au→Heap→Prop}:∀(rem:List (Nat×AO)),rem.Pairwise (fun p q=>p.1<q.1∧waits M q.1 p.1=true)→(∀p∈rem,qK M E abJ p.1 p.2.op=[])→∀(n:Nat),rem.length≤n→∀{e:Env} {H:Heap},nu L (rem.map (·.2)) e H K KP→xlt L d0 G0 (mkT M E abJ n rem) e H K KP
 |[],_,_,n,_,e,H,h=>by cases n<;>exact h
 |p::ps,_,_,0,hl,e,H,h=>by cases hl
 |p::ps,hp,hks,n+1,hl,e,H,h=>by
  obtain⟨hp1,hp2⟩:=List.pairwise_cons.1 hp;have hk0:=hks p (by simp);have hf:lg M (p::ps) p.1=true∨lg M (p::ps) p.1=false:=by cases lg M (p::ps) p.1<;>simp
  have hfilt:((p::ps).filter fun r=>r.1 !=p.1)=ps:=by
   rw[List.filter_cons_of_neg (by simp)];refine List.filter_eq_self.2 fun q hq=>?_
   have:=(hp1 q hq).1;simp only[bne_iff_ne,ne_eq];omega
  have hnone:∀l:List (Nat×AO),(∀q∈l,q∈ps)→l.foldr (fun r acc=>if lg M (p::ps) r.1 then LT.alt r.2 (qK M E abJ r.1 r.2.op) (mkT M E abJ n ((p::ps).filter fun x=>x.1 !=r.1)) acc else acc) .stop=.stop:=by
   intro l
   induction l with
   |nil=>intro _;rfl
   |cons q l ih=>
    intro hq;rw[List.foldr_cons,ih fun r hr=>hq r (by simp[hr]),if_neg];have h1:=hp1 q (hq q (by simp));intro hx;simp only[lg,List.all_cons,Bool.and_eq_true,Bool.or_eq_true,beq_iff_eq,Bool.not_eq_true']at hx;rcases hx.1 with hx|hx
    ·omega
    ·rw[h1.2]at hx;cases hx
  have ih:=fun{e:Env} {H:Heap} h=>NQ (L:=L) (d0:=d0) (G0:=G0) (M:=M) (E:=E) (abJ:=abJ) (K:=K) (KP:=KP) ps hp2 (fun q hq=>hks q (by simp[hq])) n (by simpa using hl) (e:=e) (H:=H) h
  simp only[mkT];rw[List.foldr_cons,hnone ps fun q hq=>hq,hfilt];rcases hf with hf|hf
  ·rw[if_pos hf,hk0]
   simp only[xlt,Bn,jU];simp only[List.map_cons,nu]at h
   cases hg:p.2.guard with
   |none=>simp only[hg]at h⊢;exact eG (fun v H' h=>ih h) (fun _ _ h=>h) h
   |some q=>
    obtain⟨s,want⟩:=q;simp only[hg]at h⊢;cases he:e s<;>simp only[he]at h⊢
    ·rename_i b
     cases want<;>cases b<;>first|exact eG (fun v H' h=>ih h) (fun _ _ h=>h) h|exact ih h
    ·rename_i vs
     cases vs with
     |nil=>exact ih h
     |cons=>exact False.elim h
  ·rw[if_neg (by rw[hf];simp)]
   trivial
theorem SV {M:List Nat} {E:Nat→Bool} {abJ:List AO} {i j:Nat} {q:AOp} {o:AO} {k:Option Nat} {a:AX} (hq:M8 q=true) (hj:abJ[j]?=some o) (hE:E j=true) (hw:waits M i j=false) (hl:o.op=.load k a):(k,a)∈qK M E abJ i q:=by
 unfold qK;rw[if_pos hq];refine List.mem_filterMap.2 ⟨j,List.mem_range.2 ?_,?_⟩
 ·rcases Nat.lt_or_ge j abJ.length with h'|h'
  ·exact h'
  ·rw[List.getElem?_eq_none h']at hj;cases hj
 ·rw[hE,hw,hj]
  simp[hl]
theorem Fg :∀{l:List (Option Nat×AX)} {e:Env} {H H':Heap},stays l e H H'→∀p∈l,loadAt H' p.1 (ev e p.2)=loadAt H p.1 (ev e p.2)
 |[],_,_,_,_,p,hp=>by cases hp
 |q::l,e,H,H',h,p,hp=>by
  rcases List.mem_cons.1 hp with rfl|hp
  ·exact h.1
  ·exact Fg h.2 p hp
structure Mid (T:Tab) (abJ:List AO) (M:List Nat) (E:Nat→Bool) (n:Nat) (K:Env→Heap→Prop) (KP:au→Heap→Prop) (cx:Bool) (H0:Heap) (e0:Env) (tr:Trace) (g0:aA) (S:Nat→Bool) (rem:List (Nat×AO)) (a:Act) (w:World) (H:Heap) (g:aA) (U:List (Option Nat×au)) (Hv:Heap):Prop where
 hg:g0.le g
 hs:St T.L g w H
 hr:dR T.L g n a.tmps (iL U (eF S 0 e0 (dx E 0 abJ) tr))
 hd:DOK g0 g a.defers
 rest:∃nf,rem.length≤nf∧xlt T.L (eF (fun _=>true) 0 e0 (dx E 0 abJ) tr) H0 (mkT M E abJ nf rem) (iL U (eF (fun _=>true) 0 e0 (dx E 0 abJ) tr)) Hv K KP
 sub:∀p∈rem,p∈kK E 0 abJ
 Mv:∀p∈rem,S p.1=false
 done:∀k o,abJ[k]?=some o→E k=false→S k=false→(k,o)∈rem
 slots:∀p∈U,∃k o,abJ[k]?=some o∧E k=false∧S k=true∧p.1=o.dst
 heap:(H=Hv∧(∀i v zs,tr[i]?=some (v,some zs)→S i=true))∨(Hv=H0 ++pad (fun _=>true) 0 tr∧H=H0 ++pad S 0 tr)
 agr:∀i o,abJ[i]?=some o→E i=true→S i=false→dX o.op=true∨agree H0.length H0 H∨(cx=true∧Still H0 H (eF (fun _=>true) 0 e0 (dx E 0 abJ) tr) o.op)
theorem LJ {L:Lnk} {o:AO} {e:Env} {H0:Heap} {len:Nat} {v:au} {zs:aU} (h:kW L o e H0 len v (some zs)):DR o.op=true:=by
 have key:qE L o.op e H0 len v (some zs)→DR o.op=true:=fun hf=>by
  rcases hf.2 with⟨_,_,h1,_⟩|⟨x,_,h1,_⟩<;>rw[h1]<;>rfl
 unfold kW at h
 cases hg:o.guard with
 |none=>rw[hg]at h;exact key h
 |some p=>
  obtain⟨t,want⟩:=p;rw[hg]at h;rcases h with⟨b,_,h⟩|⟨_,_,h⟩
  ·rcases h with⟨_,h⟩|⟨_,_,h⟩
   ·exact key h
   ·cases h
  ·cases h
theorem Cm {S:Nat→Bool} {i k:Nat} (h:S k=true):jK S i k=true:=by simp[jK,h]
theorem zF {S:Nat→Bool} {i k:Nat} (h:jK S i k=false):S k=false∧k≠i:=by simp[jK]at h;exact⟨h.2,h.1⟩
theorem Qr {ro : Option Nat} {cx lin : Bool} {H0 : Heap} {e0 : Env} {tr : Trace} (hdr : oK cx lin ops abJ (masks ops.toList []) E = true) (hcl : cx = true → uj abJ E = true)
  (hcs : ∀ (i : Nat) (o : Oper), ops[i]? = some o → ∃ ao, abJ[i]? = some ao ∧ BG T n ops o = some ao) (hlen : abJ.length = ops.size)
  (hK : ∀ a w e H g, K e H → g0.le g → St T.L g w H → dR T.L g n a.tmps e → DOK g0 g a.defers → Q .normal a w)
  (hP : ∀ v x a w H g, KP x H → g0.le g → St T.L g w H → Rep T.L g v x → DOK g0 g a.defers → Q (.panic [⟨v, false, false⟩]) a w)
  (htr : Tr T.L H0 (dx E 0 abJ) tr e0 H0.length) :
  ∀ (fuel : Nat) (listed : Array Bool) (rem : List (Nat × AO)) (a : Act) (w : World) (H : Heap) (g : aA) (U : List (Option Nat × au)) (Hv : Heap), unl (gQ listed) ops.size ≤ fuel → listed.size = ops.size → Closed ops (gQ listed) →
   Mid T abJ (masks ops.toList []) E n K KP cx H0 e0 tr g0 (gQ listed) rem a w H g U Hv → wpAnyIn (FW ro) 0 T.L.P .any ops Q fuel listed a w := by
 have hT := Vv _ _ _ _ htr
 rw [Aa] at hT
 have Ai : ∀ {j : Nat} {o : AO}, abJ[j]? = some o → j < ops.size := fun {j o} hj => by
  rcases Nat.lt_or_ge j abJ.length with h' | h'
  ·omega
  ·rw [List.getElem?_eq_none h'] at hj; cases hj
 have masked : ∀ {j t : Nat} {oj : AO}, (dx E 0 abJ)[j]? = some oj → oj.dst = some t → abJ[j]? = some oj ∧ E j = true := fun {j t oj} hj hd => by
  obtain ⟨o', h1, h2⟩ := Dq abJ 0 j oj hj
  rw [Nat.zero_add] at h2
  cases hE : E j with
  | true => rw [hE] at h2; simp only [if_true] at h2; exact ⟨h2 ▸ h1, rfl⟩
  | false => rw [hE] at h2; simp only [Bool.false_eq_true, if_false] at h2; rw [h2] at hd; cases hd
 have newE : ∀ {j : Nat} {v : au} {zs : aU}, tr[j]? = some (v, some zs) → ∃ o, abJ[j]? = some o ∧ E j = true ∧ DR o.op = true := fun {j v zs} hj => by
  have hjl : j < (dx E 0 abJ).length := by
   rw [Aa]
   rcases Nat.lt_or_ge j tr.length with h' | h'
   ·omega
   ·rw [List.getElem?_eq_none h'] at hj; cases hj
  have hm : (dx E 0 abJ)[j]? = some (dx E 0 abJ)[j] := List.getElem?_eq_getElem hjl
  obtain ⟨v', z', h1, h2⟩ := Py _ tr 0 e0 H0.length htr j _ hm
  rw [hj] at h1
  cases h1
  have hnew := LJ h2
  obtain ⟨o', h3, h4⟩ := Dq abJ 0 j _ hm
  rw [Nat.zero_add] at h4
  cases hE : E j with
  | true => rw [hE] at h4; simp only [if_true] at h4; rw [h4] at hnew; exact ⟨o', h3, rfl, hnew⟩
  | false => rw [hE] at h4; simp only [Bool.false_eq_true, if_false] at h4; rw [h4] at hnew; cases hnew
 have Sv : ∀ (S : Nat → Bool), (∀ j v zs, tr[j]? = some (v, some zs) → S j = true) → pad S 0 tr = pad (fun _ => true) 0 tr := fun S h =>
  yR tr 0 fun j v zs hj => by rw [Nat.zero_add]; exact h j v zs hj
 have fin : ∀ (listed : Array Bool) (rem : List (Nat × AO)) (a : Act) (w : World) (H : Heap) (g : aA) (U : List (Option Nat × au)) (Hv : Heap), (∀ k, k < ops.size → gQ listed k = true) →
   Mid T abJ (masks ops.toList []) E n K KP cx H0 e0 tr g0 (gQ listed) rem a w H g U Hv → Q .normal a w := by
  intro listed rem a w H g U Hv hall m
  have Aj : rem = [] := by
   cases hr : rem with
   | nil => rfl
   | cons p ps =>
    exfalso
    have h1 := m.Mv p (by rw [hr]; simp)
    have hmem : p ∈ kK E 0 abJ := m.sub p (by rw [hr]; simp)
    obtain ⟨i, h2, h3, _⟩ := (mD abJ 0 p).1 hmem
    rw [Nat.zero_add] at h2
    rw [hall p.1 (by rw [h2]; exact Ai h3)] at h1
    cases h1
  obtain ⟨nf, _, hrest⟩ := m.rest
  rw [Aj] at hrest
  have hrest : K (iL U (eF (fun _ => true) 0 e0 (dx E 0 abJ) tr)) Hv := by cases nf <;> exact hrest
  have Zo : eF (gQ listed) 0 e0 (dx E 0 abJ) tr = eF (fun _ => true) 0 e0 (dx E 0 abJ) tr := by
   funext t
   exact pQ _ _ _ _ _ (fun j o hj hd => by rw [Nat.zero_add]; exact hall j (Ai (masked hj hd).1)) rfl
  have hheap : H = Hv := by
   rcases m.heap with h | ⟨h1, h2⟩
   ·exact h.1
   ·rw [h1, h2, Sv _ fun j v zs hj => by obtain ⟨o, h3, _⟩ := newE hj; exact hall j (Ai h3)]
  have hr := m.hr
  rw [Zo] at hr
  exact hK _ _ _ _ g (by rw [hheap]; exact hrest) m.hg m.hs hr m.hd
 intro fuel
 induction fuel with
 | zero =>
  intro listed rem a w H g U Hv hf hsz hc m
  have hall := Jd ops.size (Nat.le_zero.1 hf)
  refine ⟨?_, fin listed rem a w H g U Hv hall m⟩
  cases hrd : Region.ready .any ops listed with
  | nil => rfl
  | cons i is =>
   obtain ⟨h1, h2, _⟩ := zW (by rw [hrd]; simp : i ∈ Region.ready .any ops listed) hsz
   rw [hall i h2] at h1
   cases h1
 | succ fuel ih =>
  intro listed rem a w H g U Hv hf hsz hc m
  refine ⟨fun hrd => fin listed rem a w H g U Hv (Qk hdr hrd hsz) m, fun i hi => ?_⟩
  obtain ⟨h1, h2, o, h3, h4⟩ := zW hi hsz
  obtain ⟨ao, hao, hmk, hlow, Tg⟩ := pR hdr h3
  obtain ⟨ao', hao', hco⟩ := hcs i o h3
  rw [hao] at hao'
  cases hao'
  have hS' : gQ (listed.setIfInBounds i true) = jK (gQ listed) i := Kq (by omega)
  have hunl : unl (gQ (listed.setIfInBounds i true)) ops.size ≤ fuel := by
   rw [hS']
   have := NV h1 ops.size h2
   omega
  have behind : ∀ j oj, ops[j]? = some oj → waits (masks ops.toList []) j i = true → gQ listed j = false := fun j oj hj hmem => by
   cases hon : gQ listed j with
   | false => rfl
   | true => have := Er hc j (.inl hon) i hmem; rw [h1] at this; cases this
  have before : ∀ j, waits (masks ops.toList []) i j = true → gQ listed j = true := fun j hmem => Er hc i (.inr ⟨o, h3, h4⟩) j hmem
  obtain ⟨q1, q2, q3, q4⟩ := Ew hco
  cases hE : E i with
  | true =>
   have hto : (dx E 0 abJ)[i]? = some ao := Dp abJ 0 i ao hao (by rw [Nat.zero_add]; exact hE)
   obtain ⟨v, z, hvz, hact⟩ := Py _ tr 0 e0 H0.length htr i ao hto
   rw [Nat.zero_add] at hact
   have cross : ∀ k ok, abJ[k]? = some ok → E k = false → gQ listed k = true → nR cx ao ok = true := fun k ok hk hEk hon => by
    have hks := Ai hk
    have hok : ops[k]? = some ops[k] := Array.getElem?_eq_getElem hks
    obtain ⟨ak, k0, _, _, kp⟩ := pR hdr hok
    rw [hk] at k0; cases k0
    obtain ⟨ai, k1, k2⟩ := kp i h2
    rw [hao] at k1; cases k1
    rw [hEk, hE] at k2
    rcases k2 with k2 | k2
    ·have := behind k _ hok k2; rw [hon] at this; cases this
    ·exact k2
   have pairs : ∀ j oj, abJ[j]? = some oj → E j = true → (j < i → xS (masks ops.toList []) j i oj ao = true) ∧ (i < j → xS (masks ops.toList []) i j ao oj = true) := fun j oj hj hEj => by
    have hjs := Ai hj
    have hoj : ops[j]? = some ops[j] := Array.getElem?_eq_getElem hjs
    constructor
    ·intro hji
     obtain ⟨aj, k1, k2⟩ := Tg j hjs
     rw [hj] at k1; cases k1
     rw [hE, hEj] at k2
     exact k2 hji
    ·intro hij
     obtain ⟨aj, k0, _, _, kp⟩ := pR hdr hoj
     rw [hj] at k0; cases k0
     obtain ⟨ai, k1, k2⟩ := kp i h2
     rw [hao] at k1; cases k1
     rw [hEj, hE] at k2
     exact k2 hij
   have QG : ∀ t ∈ ao.looks, eF (fun j => decide (j < i)) 0 e0 (dx E 0 abJ) tr t = iL U (eF (gQ listed) 0 e0 (dx E 0 abJ) tr) t := fun t ht => by
    rw [xU U _ fun p hp hpt => by
     obtain ⟨k, ok, k1, k2, k3, k4⟩ := m.slots p hp
     have := cross k ok k1 k2 k3
     simp only [nR, Bool.and_eq_true] at this
     rw [k4] at hpt
     simp [hpt, ht] at this]
    refine pQ _ _ _ _ _ (fun j oj hj hdst => ?_) rfl
    rw [Nat.zero_add]
    obtain ⟨hj, hEj⟩ := masked hj hdst
    have hjs := Ai hj
    have hoj : ops[j]? = some ops[j] := Array.getElem?_eq_getElem hjs
    rcases Nat.lt_trichotomy j i with hji | hji | hji
    ·have k2 := (pairs j oj hj hEj).1 hji
     simp only [xS, Bool.and_eq_true, hdst] at k2
     have k3 := k2.1
     have hmem : waits (masks ops.toList []) i j = true := by
      simp only [Bool.or_eq_true, Bool.and_eq_true] at k3
      rcases k3 with k3 | k3
      ·have := k3.1; simp [ht] at this
      ·simpa using k3
     rw [before j hmem]
     simpa using hji
    ·subst hji; rw [h1]; simp
    ·have k2 := (pairs j oj hj hEj).2 hji
     simp only [xS, Bool.and_eq_true, hdst] at k2
     have k3 := k2.2
     have hmem : waits (masks ops.toList []) j i = true := by
      simp only [Bool.or_eq_true] at k3
      rcases k3 with k3 | k3
      ·simp [ht] at k3
      ·simpa using k3
     rw [behind j _ hoj hmem]
     simp; omega
   have Ti : iL U (eF (gQ (listed.setIfInBounds i true)) 0 e0 (dx E 0 abJ) tr) = bg (iL U (eF (gQ listed) 0 e0 (dx E 0 abJ) tr)) ao.dst v := by
    rw [hS']
    have := OP (S := gQ listed) (dx E 0 abJ) tr 0 i e0 hto hvz (by rw [Nat.zero_add]; exact h1) (fun j oj d hj hij hS hdst hdj => by
     rw [Nat.zero_add] at hS
     obtain ⟨hj, hEj⟩ := masked hj hdj
     have hjs := Ai hj
     have hoj : ops[j]? = some ops[j] := Array.getElem?_eq_getElem hjs
     have k2 := (pairs j oj hj hEj).2 hij
     simp only [xS, Bool.and_eq_true, hdst] at k2
     have k3 := k2.1
     simp only [Bool.or_eq_true, Bool.and_eq_true] at k3
     rcases k3 with k3 | k3
     ·simp [hdj] at k3
     ·rw [behind j _ hoj (by simpa using k3)] at hS; cases hS)
    rw [Nat.zero_add] at this
    rw [this]
    refine Qy U _ fun p hp t ht => ?_
    obtain ⟨k, ok, k1, k2, k3, k4⟩ := m.slots p hp
    have := cross k ok k1 k2 k3
    simp only [nR, Bool.and_eq_true, ht] at this
    rw [k4]
    have h5 := this.1.2.2
    simpa using h5
   obtain ⟨H', hH'⟩ : ∃ H', H' = (match z with | none => H | some zs => H.set (H0.length + cnt tr i) zs) := ⟨_, rfl⟩
   have next : ∀ (u : Value) (w' : World) (g' : aA), g.le g' → St T.L g' w' H' → Rep T.L g' u v → wpAnyIn (FW ro) 0 T.L.P .any ops Q fuel (listed.setIfInBounds i true) (a.put o.dst u) w' := fun u w' g' k1 k2 k3 => by
    obtain ⟨p1, p2⟩ := (m.hr.mono k1).Wn q3 k3
    refine ih _ rem _ _ H' g' U Hv hunl (by simpa using hsz) (hc.add hsz hi) ?_
    refine { hg := m.hg.trans k1, hs := k2, hr := ?_, hd := by rw [p2]; exact m.hd.mono k1, rest := m.rest, sub := m.sub, Mv := fun p hp => ?_, done := fun k ok k1 k2 k3 => ?_, slots := fun p hp => ?_, heap := ?_, agr := ?_ }
    ·rw [Ti, q2]; exact p1
    ·rw [hS']
     have hne : p.1 ≠ i := fun e => by
      have hmem : p ∈ kK E 0 abJ := m.sub p hp
      obtain ⟨j, q1, q2, q3⟩ := (mD abJ 0 p).1 hmem
      rw [← q1, e, hE] at q3
      cases q3
     simp [jK, hne, m.Mv p hp]
    ·rw [hS'] at k3
     exact m.done k ok k1 k2 (zF k3).1
    ·obtain ⟨k, ok, k1, k2, k3, k4⟩ := m.slots p hp
     exact ⟨k, ok, k1, k2, by rw [hS']; exact Cm k3, k4⟩
    ·rw [hS']
     rcases m.heap with ⟨k1, k2⟩ | ⟨k2, k3⟩
     ·cases z with
      | some zs => have := k2 i v zs hvz; rw [h1] at this; cases this
      | none => exact .inl ⟨by rw [hH']; exact k1, fun j u zs hj => Cm (k2 j u zs hj)⟩
     ·refine .inr ⟨k2, ?_⟩
      cases z with
      | none =>
       have hp := J4 (S := gQ listed) tr 0 i hvz
       rw [Nat.zero_add] at hp
       rw [hH', hp]; exact k3
      | some zs =>
       have hp := Oq (S := gQ listed) tr 0 i hvz
       rw [Nat.zero_add] at hp
       rw [hH', hp, ← CW]
       dsimp only
       rw [k3]
    ·intro j oj hj hEj hon
     rw [hS'] at hon
     rcases m.agr j oj hj hEj (zF hon).1 with k1 | k1 | k1
     ·exact .inl k1
     ·refine .inr (.inl ?_)
      cases z with
      | none => rw [hH']; exact k1
      | some zs =>
       rw [hH']
       refine ⟨by have := k1.1; simpa using this, fun j ob hj ho hm hd => ?_⟩
       dsimp only
       rw [List.getElem?_set_ne (by omega)]
       exact k1.2 j ob hj ho hm hd
     ·refine .inr (.inr ?_)
      cases z with
      | none => rw [hH']; exact k1
      | some zs => rw [hH']; exact ⟨k1.1, k1.2.set (by omega) zs⟩
   have hxs : ∀ x ∈ ao.op.xs, ev (eF (fun j => decide (j < i)) 0 e0 (dx E 0 abJ) tr) x = ev (iL U (eF (gQ listed) 0 e0 (dx E 0 abJ) tr)) x := fun x hx => by
    cases x with
    | const c => rfl
    | tmp t => exact QG t (by simp only [AO.looks, List.mem_append, List.mem_flatMap]; exact .inl ⟨_, hx, by simp [AX.slots]⟩)
   have perform : qE T.L ao.op (eF (fun j => decide (j < i)) 0 e0 (dx E 0 abJ) tr) H0 (H0.length + cnt tr i) v z → Oper.wpIn (FW ro) 0 T.L.P o a w (wpAnyIn (FW ro) 0 T.L.P .any ops Q fuel (listed.setIfInBounds i true)) Q := fun hf => by
    have hgood : Good T.L g (fun v' H'' => v' = v ∧ H'' = H') (fun _ _ => False) ((execOp a.eval o).run T.L.P w) := by
     cases z with
     | none =>
      have hh : H' = H := hH'
      rw [hh]
      refine yS q1 m.hs m.hr (jD hxs (hf.2 H ?_ _ _ ⟨rfl, rfl⟩))
      rcases m.agr i ao hao hE h1 with k1 | k1 | ⟨hcx, k', a', e1, k1⟩
      ·exact .inl k1
      ·exact .inr (.inl k1)
      ·refine .inr (.inr ⟨k', a', e1, ?_⟩)
       have hev : ev (eF (fun j => decide (j < i)) 0 e0 (dx E 0 abJ) tr) a' = ev (eF (fun _ => true) 0 e0 (dx E 0 abJ) tr) a' := by
        cases a' with
        | const c => rfl
        | tmp t =>
         refine pQ _ _ _ _ _ (fun j oj hj hdst => ?_) rfl
         rw [Nat.zero_add]
         obtain ⟨hj, hEj⟩ := masked hj hdst
         rcases Nat.lt_or_ge j i with h' | h'
         ·simp [h']
         ·exact absurd (by simp [AO.looks, e1, AOp.xs, AX.slots]) (MZ (hcl hcx) hao hj hE (by rw [e1]; rfl) h' hEj hdst)
       rw [hev]; exact k1
     | some zs =>
      have hh : H' = H.set (H0.length + cnt tr i) zs := hH'
      rcases m.heap with ⟨_, k2⟩ | ⟨k2, k3⟩
      ·have := k2 i v zs hvz; rw [h1] at this; cases this
      ·have hat := Sr (S := gQ listed) tr 0 i hvz
       rw [Nat.zero_add, h1] at hat
       obtain ⟨rfl, hf⟩ := hf
       rw [hh]
       have hid : H[H0.length + cnt tr i]? = some .dead := by
        rw [k3, List.getElem?_append_right (by omega)]
        simpa using hat
       rcases hf with ⟨cs, tt, hf, rfl⟩ | ⟨x, tt, hf, rfl, hx2⟩
       ·exact Yq hmk hf q1 m.hs hid
       ·have hxx := hxs x (by rw [hf]; simp [AOp.xs])
        rw [hxx] at hx2 ⊢
        exact Pt hmk hf q1 m.hs m.hr hx2 hid
    exact tY (IW q1) hgood (fun u x w' H'' g' k1 k2 k3 k4 => by
     obtain ⟨rfl, rfl⟩ := k1
     exact next u w' g' k2 k3 k4) (fun _ _ _ _ _ k1 => k1.elim)
   unfold wpOpIn
   rw [h3]
   cases hgd : o.guard with
   | none =>
    rw [hgd] at q4
    simp only [kW, q4] at hact
    dsimp only
    rw [if_pos (by simp [Region.wanted, hgd])]
    exact perform hact
   | some pw =>
    obtain ⟨jg, want⟩ := pw
    rw [hgd] at q4
    obtain ⟨oj, t, e1, e2, e3⟩ := q4
    simp only [kW, e3] at hact
    dsimp only
    rcases hact with ⟨b, hb, hact⟩ | ⟨hb, rfl, rfl⟩
    ·rw [QG t (by simp [AO.looks, e3])] at hb
     have hy := uK (tmps := a.tmps) e1 e2 (hb ▸ m.hr.rep t)
     rcases hact with ⟨rfl, hact⟩ | ⟨hne, rfl, rfl⟩
     ·rw [if_pos (by simp [Region.wanted, hgd, hy])]
      exact perform hact
     ·rw [if_neg (by simp [Region.wanted, hgd, hy]; exact hne)]
      exact ⟨fun _ _ => trivial, next undef w g (aA.le.refl g) (by rw [hH']; exact m.hs) (yM g)⟩
    ·rw [QG t (by simp [AO.looks, e3])] at hb
     have hy := tq (tmps := a.tmps) e1 e2 (hb ▸ m.hr.rep t)
     rw [if_neg (by simp [Region.wanted, hgd, hy])]
     exact ⟨fun _ _ => trivial, next undef w g (aA.le.refl g) (by rw [hH']; exact m.hs) (yM g)⟩
  | false =>
   have hin := m.done i ao hao hE h1
   have hfree : lg (masks ops.toList []) rem i = true := by
    simp only [lg, List.all_eq_true, Bool.or_eq_true, beq_iff_eq, Bool.not_eq_true']
    intro q hq
    cases hw : waits (masks ops.toList []) i q.1 with
    | false => exact .inr rfl
    | true => have := before q.1 hw; rw [m.Mv q hq] at this; cases this
   obtain ⟨nf0, hnf0, Zk⟩ := m.rest
   obtain ⟨nf, rfl⟩ : ∃ nf, nf0 = nf + 1 := by
    cases nf0 with
    | zero => rw [List.eq_nil_of_length_eq_zero (Nat.le_zero.1 hnf0)] at hin; cases hin
    | succ nf => exact ⟨nf, rfl⟩
   obtain ⟨rs, hrs⟩ : ∃ rs, rs = rem.filter fun r => r.1 != i := ⟨_, rfl⟩
   have hrsl : rs.length ≤ nf := by
    have : rs.length < rem.length := by
     rw [hrs]
     refine List.length_filter_lt_length_iff_exists.2 ⟨(i, ao), hin, by simp⟩
    omega
   have hrsm : ∀ p ∈ rs, p ∈ rem ∧ p.1 ≠ i := fun p hp => by
    rw [hrs] at hp
    have := List.mem_filter.1 hp
    exact ⟨this.1, by simpa using this.2⟩
   have cross : ∀ k ok, abJ[k]? = some ok → E k = true → gQ listed k = false → nR cx ok ao = true := fun k ok hk hEk hon => by
    obtain ⟨ak, k1, k2⟩ := Tg k (Ai hk)
    rw [hk] at k1; cases k1
    rw [hE, hEk] at k2
    rcases k2 with k2 | k2
    ·have := before k k2; rw [hon] at this; cases this
    ·exact k2
   have cells : ∀ o ∈ pad (fun _ => true) 0 tr, ∀ es c, o ≠ .map es c := fun ob hob es c => by
    rcases H7 tr 0 ob hob with rfl | ⟨j, v, hj⟩
    ·simp
    ·obtain ⟨oj, k1, k2, k3⟩ := newE hj
     have hm : (dx E 0 abJ)[j]? = some oj := Dp abJ 0 j oj k1 (by rw [Nat.zero_add]; exact k2)
     obtain ⟨v', z', h1, h2⟩ := Py _ tr 0 e0 H0.length htr j _ hm
     rw [hj] at h1; cases h1
     obtain ⟨cs, t, rfl⟩ := EY h2
     simp
   have trI : ∀ v zs, tr[i]? ≠ some (v, some zs) := fun v zs hj => by
    obtain ⟨_, _, k2, _⟩ := newE hj
    rw [hE] at k2; cases k2
   have QG : ∀ t ∈ ao.looks, iL U (eF (fun _ => true) 0 e0 (dx E 0 abJ) tr) t = iL U (eF (gQ listed) 0 e0 (dx E 0 abJ) tr) t := fun t ht => by
    refine DC U _ _ (pQ _ _ _ _ _ (fun j oj hj hdst => ?_) rfl)
    rw [Nat.zero_add]
    obtain ⟨hj, hEj⟩ := masked hj hdst
    cases hon : gQ listed j with
    | true => rfl
    | false =>
     have := cross j oj hj hEj hon
     simp [nR, hdst, ht] at this
   have hxs : ∀ x ∈ ao.op.xs, ev (iL U (eF (fun _ => true) 0 e0 (dx E 0 abJ) tr)) x = ev (iL U (eF (gQ listed) 0 e0 (dx E 0 abJ) tr)) x := fun x hx => by
    cases x with
    | const c => rfl
    | tmp t => exact QG t (by simp only [AO.looks, List.mem_append, List.mem_flatMap]; exact .inl ⟨_, hx, by simp [AX.slots]⟩)
   have Ti : eF (gQ (listed.setIfInBounds i true)) 0 e0 (dx E 0 abJ) tr = eF (gQ listed) 0 e0 (dx E 0 abJ) tr := by
    rw [hS']
    funext t
    refine pQ _ _ _ _ _ (fun j oj hj hdst => ?_) rfl
    rw [Nat.zero_add]
    obtain ⟨hj, hEj⟩ := masked hj hdst
    have hji : j ≠ i := fun e => by rw [e, hE] at hEj; cases hEj
    simp [jK, hji]
   have next : ∀ (v : au) (H' Hv' : Heap) (u : Value) (w' : World) (g' : aA), xlt T.L (eF (fun _ => true) 0 e0 (dx E 0 abJ) tr) H0 (mkT (masks ops.toList []) E abJ nf rs) (bg (iL U (eF (fun _ => true) 0 e0 (dx E 0 abJ) tr)) ao.dst v) Hv' K KP →
     ((H' = Hv' ∧ (∀ j v zs, tr[j]? = some (v, some zs) → gQ listed j = true)) ∨ (Hv' = H0 ++ pad (fun _ => true) 0 tr ∧ H' = H0 ++ pad (gQ listed) 0 tr)) →
     (∀ j oj, abJ[j]? = some oj → E j = true → gQ listed j = false → dX oj.op = true ∨ agree H0.length H0 H' ∨ (cx = true ∧ Still H0 H' (eF (fun _ => true) 0 e0 (dx E 0 abJ) tr) oj.op)) → g.le g' → St T.L g' w' H' → Rep T.L g' u v →
     wpAnyIn (FW ro) 0 T.L.P .any ops Q fuel (listed.setIfInBounds i true) (a.put o.dst u) w' := fun v H' Hv' u w' g' hrest hheap hagr k1 k2 k3 => by
    obtain ⟨p1, p2⟩ := (m.hr.mono k1).Wn q3 k3
    refine ih _ rs _ _ H' g' (U ++ [(ao.dst, v)]) Hv' hunl (by simpa using hsz) (hc.add hsz hi) ?_
    refine { hg := m.hg.trans k1, hs := k2, hr := ?_, hd := by rw [p2]; exact m.hd.mono k1, rest := ⟨nf, hrsl, ?_⟩, sub := fun p hp => m.sub p (hrsm p hp).1, Mv := fun p hp => ?_, done := fun k ok k1 k2 k3 => ?_, slots := fun p hp => ?_, heap := ?_, agr := ?_ }
    ·rw [Ti, Dz, q2]
     exact p1
    ·rw [Dz]; exact hrest
    ·rw [hS']
     obtain ⟨hp1, hne⟩ := hrsm p hp
     simp [jK, hne, m.Mv p hp1]
    ·rw [hS'] at k3
     obtain ⟨k4, k5⟩ := zF k3
     have := m.done k ok k1 k2 k4
     rw [hrs]
     exact List.mem_filter.2 ⟨this, by simpa using k5⟩
    ·rcases List.mem_append.1 hp with hp | hp
     ·obtain ⟨k, ok, k1, k2, k3, k4⟩ := m.slots p hp
      exact ⟨k, ok, k1, k2, by rw [hS']; exact Cm k3, k4⟩
     ·simp only [List.mem_singleton] at hp
      exact ⟨i, ao, hao, hE, by rw [hS']; simp [jK], by rw [hp]⟩
    ·rw [hS']
     rcases hheap with ⟨j1, j2⟩ | ⟨j1, j2⟩
     ·exact .inl ⟨j1, fun j u zs hj => Cm (j2 j u zs hj)⟩
     ·refine .inr ⟨j1, ?_⟩
      rw [j2]
      congr 1
      refine yR tr 0 fun j u zs hj => ?_
      rw [Nat.zero_add]
      have : j ≠ i := fun e => trI u zs (by rw [← e]; exact hj)
      simp [jK, this]
    ·exact fun j oj hj hEj hon => hagr j oj hj hEj (by rw [hS'] at hon; exact (zF hon).1)
   have perform : aF T.L ao.op (iL U (eF (fun _ => true) 0 e0 (dx E 0 abJ) tr)) Hv (fun v H' => jU (qK (masks ops.toList []) E abJ i ao.op) (eF (fun _ => true) 0 e0 (dx E 0 abJ) tr) H0 H' (xlt T.L (eF (fun _ => true) 0 e0 (dx E 0 abJ) tr) H0 (mkT (masks ops.toList []) E abJ nf rs) (bg (iL U (eF (fun _ => true) 0 e0 (dx E 0 abJ) tr)) ao.dst v) H' K KP)) KP →
     Oper.wpIn (FW ro) 0 T.L.P o a w (wpAnyIn (FW ro) 0 T.L.P .any ops Q fuel (listed.setIfInBounds i true)) Q := fun hst => by
    by_cases hall : ∀ j v zs, tr[j]? = some (v, some zs) → gQ listed j = true
    ·have hHv : H = Hv := by
      rcases m.heap with h | ⟨k1, k2⟩
      ·exact h.1
      ·rw [k1, k2, Sv _ hall]
     rw [← hHv] at hst
     have hst' : aF T.L ao.op (iL U (eF (fun _ => true) 0 e0 (dx E 0 abJ) tr)) H (fun v H' => xlt T.L (eF (fun _ => true) 0 e0 (dx E 0 abJ) tr) H0 (mkT (masks ops.toList []) E abJ nf rs) (bg (iL U (eF (fun _ => true) 0 e0 (dx E 0 abJ) tr)) ao.dst v) H' K KP ∧
       (∀ j oj, abJ[j]? = some oj → E j = true → gQ listed j = false → dX oj.op = true ∨ agree H0.length H0 H' ∨ (cx = true ∧ Still H0 H' (eF (fun _ => true) 0 e0 (dx E 0 abJ) tr) oj.op))) KP := by
      by_cases hk : Iu ao.op = true
      ·refine eG (fun v H' h => ⟨(nA.1 h.1).2, fun j oj hj hEj hon => ?_⟩) (fun _ _ h => h) (M6 hk (agree.refl H) hst)
       rcases m.agr j oj hj hEj hon with k1 | k1 | k1
       ·exact .inl k1
       ·exact .inr (.inl (k1.trans h.2))
       ·exact .inr (.inr ⟨k1.1, k1.2.keep h.2⟩)
      ·refine eG (fun v H' h => ⟨(nA.1 h).2, fun j oj hj hEj hon => ?_⟩) (fun _ _ h => h) hst
       have := cross j oj hj hEj hon
       simp only [nR, Bool.and_eq_true, Bool.or_eq_true] at this
       rcases this.1.1.2 with (k1 | k1) | ⟨⟨k1, k2⟩, k3⟩
       ·exact absurd k1 hk
       ·exact .inl k1
       ·refine .inr (.inr ⟨k1, ?_⟩)
        cases hqj : oj.op <;> rw [hqj] at k3 <;> try (cases k3; done)
        rename_i kk aa
        have hw : waits (masks ops.toList []) i j = false := by
         cases hw : waits (masks ops.toList []) i j with
         | false => rfl
         | true => have := before j hw; rw [hon] at this; cases this
        exact ⟨kk, aa, rfl, fun v hv _ => (Fg (nA.1 h).1 _ (SV k2 hj hEj hw hqj)).trans hv⟩
     exact tY (IW q1) (yS q1 m.hs m.hr (jD hxs hst'))
      (fun u x w' H' g' k1 k2 k3 k4 => next x H' H' u w' g' k1.1 (.inl ⟨rfl, hall⟩) k1.2 k2 k3 k4)
      (fun u x w' H' g' k1 k2 k3 k4 => hP u x a w' H' g' k1 (m.hg.trans k2) k3 k4 (m.hd.mono k2))
    ·-- new variables are still to come: it is a quiet one
     have hq : Cb ao.op = true := by
      cases hq : Cb ao.op with
      | true => rfl
      | false =>
       exfalso
       apply hall
       intro j v zs hj
       obtain ⟨oj, k1, k2, k3⟩ := newE hj
       cases hon : gQ listed j with
       | true => rfl
       | false =>
        have := cross j oj k1 k2 hon
        simp [nR, k3, hq] at this
     obtain ⟨hH1, hH2⟩ : Hv = H0 ++ pad (fun _ => true) 0 tr ∧ H = H0 ++ pad (gQ listed) 0 tr := by
      rcases m.heap with h | h
      ·exact absurd h.2 hall
      ·exact h
     rw [hH1] at hst
     obtain ⟨v, r1, r2⟩ := Sk (B := pad (gQ listed) 0 tr) hq cells hst
     have hst' : aF T.L ao.op (iL U (eF (fun _ => true) 0 e0 (dx E 0 abJ) tr)) H (fun v' H' => v' = v ∧ H' = H) KP := by
      rw [hH2]; exact r2 _ _ ⟨rfl, rfl⟩
     exact tY (IW q1) (yS q1 m.hs m.hr (jD hxs hst'))
      (fun u x w' H' g' k1 k2 k3 k4 => by
       obtain ⟨rfl, rfl⟩ := k1
       exact next x H' _ u w' g' (nA.1 r1).2 (.inr ⟨rfl, hH2⟩) m.agr k2 k3 k4)
      (fun u x w' H' g' k1 k2 k3 k4 => hP u x a w' H' g' k1 (m.hg.trans k2) k3 k4 (m.hd.mono k2))
   have hrest := YN Zk hin hfree
   rw [← hrs] at hrest
   unfold wpOpIn
   rw [h3]
   cases hgd : o.guard with
   | none =>
    rw [hgd] at q4
    simp only [q4] at hrest
    dsimp only
    rw [if_pos (by simp [Region.wanted, hgd])]
    exact perform hrest
   | some pw =>
    obtain ⟨jg, want⟩ := pw
    rw [hgd] at q4
    obtain ⟨oj, t, e1, e2, e3⟩ := q4
    simp only [e3] at hrest
    have hst := QG t (by simp [AO.looks, e3])
    have skip : xlt T.L (eF (fun _ => true) 0 e0 (dx E 0 abJ) tr) H0 (mkT (masks ops.toList []) E abJ nf rs) (bg (iL U (eF (fun _ => true) 0 e0 (dx E 0 abJ) tr)) ao.dst (.tup [])) Hv K KP → wpAnyIn (FW ro) 0 T.L.P .any ops Q fuel (listed.setIfInBounds i true) (a.put o.dst undef) w := fun h =>
     next (.tup []) H Hv undef w g h (by
      rcases m.heap with ⟨j1, j2⟩ | j
      ·exact .inl ⟨j1, j2⟩
      ·exact .inr j) m.agr (aA.le.refl g) m.hs (yM g)
    dsimp only
    cases hb : iL U (eF (fun _ => true) 0 e0 (dx E 0 abJ) tr) t <;> simp only [hb] at hrest
    case tup vs =>
     cases vs with
     | cons => exact False.elim hrest
     | nil =>
      rw [hb] at hst
      have hy := tq (tmps := a.tmps) e1 e2 (hst.symm ▸ m.hr.rep t)
      rw [if_neg (by simp [Region.wanted, hgd, hy])]
      exact ⟨fun _ _ => trivial, skip hrest⟩
    rename_i b
    rw [hb] at hst
    have hy := uK (tmps := a.tmps) e1 e2 (hst.symm ▸ m.hr.rep t)
    cases want <;> cases b <;> first
     | (rw [if_pos (by simp [Region.wanted, hgd, hy])]; exact perform hrest)
     | (rw [if_neg (by simp [Region.wanted, hgd, hy])]; exact ⟨fun _ _ => trivial, skip hrest⟩)
theorem St.pads (h:St L g w H) (m:Nat):St L g w (H ++List.replicate m .dead):=by
 have hget:∀(i:Nat) (o:aU),(H ++List.replicate m .dead)[i]?=some o→H[i]?=some o∨(H.length≤i∧o=.dead):=by
  intro i o hi;rcases Nat.lt_or_ge i H.length with h'|h'
  ·rw[List.getElem?_append_left h']at hi;exact .inl hi
  ·rw[List.getElem?_append_right h',List.getElem?_replicate]at hi
   split at hi
   ·exact .inr ⟨h',(Option.some.inj hi).symm⟩
   ·cases hi
 refine⟨h.fz,fun i o ho=>?_,fun i v hv=>h.new i v (by simp at hv;omega),h.bnd,fun i j o o' s s' hi hj ha ha' h1 h2 hb=>?_,h.below,h.bs,h.fact,h.kp,h.dk⟩
 ·rcases hget i o ho with ho|⟨h1,rfl⟩
  ·exact h.obj i o ho
  ·exact fun v=>h.new i v h1
 ·rcases hget i o hi with hi|⟨_,rfl⟩
  ·rcases hget j o' hj with hj|⟨_,rfl⟩
   ·exact h.inj i j o o' s s' hi hj ha ha' h1 h2 hb
   ·cases ha'
  ·cases ha
theorem St.drawn (h:St L g w H):St L g {w with drawn:=w.drawn+1} H:=
 ⟨h.fz,fun i o ho=>(h.obj i o ho).keep (aA.le.refl g) (fun _=>rfl) fun _ _ _=>⟨rfl,fun _=>rfl⟩,h.new,h.bnd,h.inj,h.below.drew,h.bs,h.fact,h.kp,h.dk⟩
theorem rD {ro:Option Nat} {id:Nat} {cx lin:Bool} (hm:T.L.P.follows .mixedOrders=true) (hdr:oK cx lin ops abJ (masks ops.toList []) E=true) (hcl:cx=true→uj abJ E=true) (hcs:qC T n ops ops.toList=some abJ)
  (hK:∀a w e H g,K e H→g0.le g→St T.L g w H→dR T.L g n a.tmps e→DOK g0 g a.defers→Q .normal a w)
  (hP:∀v x a w H g,KP x H→g0.le g→St T.L g w H→Rep T.L g v x→DOK g0 g a.defers→Q (.panic [⟨v,false,false⟩]) a w)
  {a:Act} {w:World} {e:Env} {H:Heap} {g:aA} (hg:g0.le g) (hs:St T.L g w H) (hr:dR T.L g n a.tmps e) (hd:DOK g0 g a.defers)
  (h:iA T.L H (oJ E 0 abJ) e H (fun e' H'=>xlt T.L e' H (mkT (masks ops.toList []) E abJ (kK E 0 abJ).length (kK E 0 abJ)) e' H' K KP)):(Code.region id ops true).wpIn (FW ro) 0 T.L.P Q a w:=by
 obtain⟨k1,k2⟩:=Au ops.toList abJ hcs;obtain⟨tr,h1,h2⟩:=AL (dx E 0 abJ) 0 e H (nk abJ 0 e H h)
 have Iw:∀k,gQ (Array.replicate ops.size false) k=false:=fun k=>by
  simp only[gQ,Array.getD_eq_getD_getElem?,Array.getElem?_replicate];split<;>rfl
 have hpad:∀(tr:Trace) k,∃m,pad (fun _=>false) k tr=List.replicate m .dead:=by
  intro tr
  induction tr with
  |nil=>exact fun k=>⟨0,rfl⟩
  |cons p tr ih=>
   intro k;obtain⟨v,z⟩:=p;obtain⟨m,hm⟩:=ih (k+1)
   cases z with
   |none=>exact⟨m,by simpa only[pad]using hm⟩
   |some zs=>exact⟨m+1,by simp only[pad,hm];rfl⟩
 have Zo:∀(l:List AO) (tr:Trace) (k:Nat) (e:Env),eF (fun _=>false) k e l tr=e:=by
  intro l
  induction l with
  |nil=>intro tr k e;rfl
  |cons o os ih=>
   intro tr k e
   cases tr with
   |nil=>rfl
   |cons p tr=>obtain⟨v,z⟩:=p;simp only[eF];exact ih tr (k+1) e
 have hS:gQ (Array.replicate ops.size false)=fun _=>false:=funext Iw
 refine wpIn_region_any hm (Qr (KP:=KP) (K:=K) (tr:=tr) hdr hcl (fun i o ho=>k2 i o (by simpa using ho)) (by simpa using k1) hK hP h1 ops.size _ (kK E 0 abJ) a _ (H ++pad (fun _=>false) 0 tr) g [] (H ++pad (fun _=>true) 0 tr) (RP _ _) (by simp) (fun j o _ hon=>by rw[Iw]at hon;cases hon)
  {hg:=hg,hs:=?_,hr:=?_,hd:=hd,rest:=⟨_,Nat.le_refl _,h2⟩,sub:=fun p hp=>hp,Mv:=fun p _=>Iw _,done:=fun k o k1 k2 _=>?_,slots:=fun p hp=>by simp at hp,heap:=.inr ⟨rfl,by rw[hS]⟩,agr:=fun _ _ _ _ _=>.inr (.inl ⟨by simp,fun i ob hi ho _ _=>by rw[List.getElem?_append_left hi];exact ho⟩)})
 ·obtain⟨m,hm⟩:=hpad tr 0
  rw[hm];exact(hs.pads m).drawn
 ·rw[hS,Zo];exact hr
 ·exact(mD abJ 0 (k,o)).2 ⟨k,by simp,k1,by rwa[Nat.zero_add]⟩
theorem Ns {ro:Option Nat} {id:Nat} (hm:T.L.P.follows .mixedOrders=true) (hdr:oK false true ops abJ (masks ops.toList []) E=true) (hcs:qC T n ops ops.toList=some abJ)
  (hK:∀a w e H g,K e H→g0.le g→St T.L g w H→dR T.L g n a.tmps e→DOK g0 g a.defers→Q .normal a w)
  (hP:∀v x a w H g,KP x H→g0.le g→St T.L g w H→Rep T.L g v x→DOK g0 g a.defers→Q (.panic [⟨v,false,false⟩]) a w)
  {a:Act} {w:World} {e:Env} {H:Heap} {g:aA} (hg:g0.le g) (hs:St T.L g w H) (hr:dR T.L g n a.tmps e) (hd:DOK g0 g a.defers)
  (h:iA T.L H (oJ E 0 abJ) e H (fun e' H'=>nu T.L ((kK E 0 abJ).map (·.2)) e' H' K KP)):(Code.region id ops true).wpIn (FW ro) 0 T.L.P Q a w:=by
 obtain⟨k1,k2⟩:=Au ops.toList abJ hcs
 have Ai:∀{j:Nat} {o:AO},abJ[j]?=some o→j<ops.size:=fun{j o} hj=>by
  rcases Nat.lt_or_ge j abJ.length with h'|h'
  ·have:abJ.length=ops.size:=by simpa using k1
   omega
  ·rw[List.getElem?_eq_none h']at hj;cases hj
 refine rD (cx:=false) hm hdr (fun h=>by cases h) hcs hK hP hg hs hr hd (gP (fun e' H' hx=>NQ _ ?_ (fun p hp=>?_) _ (Nat.le_refl _) hx) h)
 ·refine(uq (E:=E) abJ 0).imp_of_mem fun{p q} hp hq hlt=>⟨hlt,?_⟩
  obtain⟨i,p1,p2,p3⟩:=(mD abJ 0 p).1 hp;obtain⟨j,q1,q2,q3⟩:=(mD abJ 0 q).1 hq;rw[Nat.zero_add]at p1 p3 q1 q3;obtain⟨aj,_,_,_,kp⟩:=pR hdr (Array.getElem?_eq_getElem (Ai q2));obtain⟨ai,_,k4⟩:=kp i (Ai p2);rw[q3,p3]at k4;rw[p1,q1];exact k4 rfl (by rw[←p1,←q1];exact hlt)
 ·obtain⟨i,p1,p2,p3⟩:=(mD abJ 0 p).1 hp
  rw[Nat.zero_add]at p1 p3;unfold qK;split
  ·rename_i ht
   rw[List.filterMap_eq_nil_iff];intro j hj;split
   ·rename_i hc
    simp only[Bool.and_eq_true,Bool.not_eq_true']at hc
    cases hoj:abJ[j]? with
    |none=>rfl
    |some oj=>
     obtain⟨ai,i0,_,_,kp⟩:=pR hdr (Array.getElem?_eq_getElem (Ai p2));rw[p2]at i0;cases i0;obtain⟨aj,j0,k4⟩:=kp j (Ai hoj);rw[hoj]at j0;cases j0;rw[p3,hc.1]at k4;rw[p1]at hc;rcases k4 with k4|k4
     ·rw[hc.2]at k4;cases k4
     ·have hk:Iu p.2.op=false:=by cases hq:p.2.op<;>rw[hq]at ht<;>first|rfl|(cases ht;done)
      have hl':dX oj.op=true:=by
       simp only[nR,hk,Bool.false_or,Bool.or_eq_true,Bool.and_eq_true]at k4;rcases k4.1.1.2 with h'|h'
       ·exact h'
       ·exact absurd h'.1.1 (by decide)
      dsimp only;cases hl:oj.op<;>first|rfl|(rw[hl]at hl';cases hl';done)
   ·rfl
  ·rfl
end
end Go.Ag
/- Late operations of a drawn region that change nothing, and that nobody disturbs, may be taken in one order. -/
namespace Go.Ag
open Go
variable {L : Lnk}
def EH (L:Lnk) (o:AO) (ks:List (Option Nat×AX)) (d0:Env) (G0:Heap) (e:Env) (H:Heap) (K:Env→Heap→Prop) (KP:au→Heap→Prop):Prop:=match o.guard with
 |none=>aF L o.op e H (fun v H'=>jU ks d0 G0 H' (K (bg e o.dst v) H')) KP
 |some (s,want)=>match e s with
  |.bool b=>match want,b with
   |true,true=>aF L o.op e H (fun v H'=>jU ks d0 G0 H' (K (bg e o.dst v) H')) KP
   |false,false=>aF L o.op e H (fun v H'=>jU ks d0 G0 H' (K (bg e o.dst v) H')) KP
   |true,false=>K (bg e o.dst (.tup [])) H
   |false,true=>K (bg e o.dst (.tup [])) H
  |.tup []=>K (bg e o.dst (.tup [])) H
  |_=>False
theorem pX {o:AO} {ks:List (Option Nat×AX)} {t more:LT} {d0:Env} {G0:Heap} {e:Env} {H:Heap} {K:Env→Heap→Prop} {KP:au→Heap→Prop}:
  xlt L d0 G0 (.alt o ks t more) e H K KP=Bn more (EH L o ks d0 G0 e H (fun e' H'=>xlt L d0 G0 t e' H' K KP) KP) (xlt L d0 G0 more e H K KP):=rfl
theorem Ct {o:AO} {ks:List (Option Nat×AX)} {d0:Env} {G0:Heap} {e e':Env} {H:Heap} {K K':Env→Heap→Prop} {KP:au→Heap→Prop} (hl:∀t∈o.looks,e t=e' t)
  (hk:∀u H',K (bg e o.dst u) H'→K' (bg e' o.dst u) H') (h:EH L o ks d0 G0 e H K KP):EH L o ks d0 G0 e' H K' KP:=by
 have hx:∀x∈o.op.xs,ev e x=ev e' x:=fun x hx=>by
  cases x with
  |const v=>rfl
  |tmp t=>exact hl t (by simp only[AO.looks,List.mem_append,List.mem_flatMap];exact .inl ⟨_,hx,by simp[AX.slots]⟩)
 have hstep:∀{K1 K2:au→Heap→Prop},(∀v H,K1 v H→K2 v H)→aF L o.op e H K1 KP→aF L o.op e' H K2 KP:=fun hk h=>jD hx (eG hk (fun _ _ h=>h) h)
 unfold EH at h⊢
 cases hg:o.guard with
 |none=>simp only[hg]at h⊢;exact hstep (fun v H' h=>ny (hk _ _) h) h
 |some p=>
  obtain⟨s,want⟩:=p;have hs:e s=e' s:=hl s (by simp[AO.looks,hg]);simp only[hg]at h⊢;rw[←hs];cases he:e s<;>simp only[he]at h⊢
  ·rename_i b
   cases want<;>cases b<;>first|exact hstep (fun v H' h=>ny (hk _ _) h) h|exact hk _ _ h
  ·rename_i vs
   cases vs with
   |nil=>exact hk _ _ h
   |cons=>exact False.elim h
theorem xM {q:AOp} (hq:dX q=true∨isLoad q=true) {e:Env} {H:Heap} {K KP:au→Heap→Prop} (h:aF L q e H K KP):
  ∃v,K v H∧∀H' K' KP',(dX q=true∨H'=H)→K' v H'→aF L q e H' K' KP':=by
 cases hl:dX q
 ·rcases hq with hq|hq
  ·rw[hl]at hq;cases hq
  ·cases q<;>first|(cases hq;done)|skip
   rename_i k a;simp only[aF]at h⊢
   cases hv:loadAt H k (ev e a)with
   |none=>simp only[hv]at h
   |some v=>
    simp only[hv]at h;refine⟨v,h,fun H' K' KP' hh hk=>?_⟩;rcases hh with hh|rfl
    ·cases hh
    ·simp only[hv];exact hk
 ·obtain⟨v,h1,h2⟩:=light hl h
  exact⟨v,h1,fun H' K' KP' _ hk=>h2 H' K' KP' hk⟩
theorem FJ {o:AO} (hq:dX o.op=true∨isLoad o.op=true) {d0:Env} {G0:Heap} {e:Env} {H:Heap} {K:Env→Heap→Prop} {KP:au→Heap→Prop} (h:EH L o [] d0 G0 e H K KP):
  ∃v,K (bg e o.dst v) H∧∀e' H' K' KP',(∀t∈o.looks,e t=e' t)→(dX o.op=true∨H'=H)→K' (bg e' o.dst v) H'→EH L o [] d0 G0 e' H' K' KP':=by
 have hx:∀e':Env,(∀t∈o.looks,e t=e' t)→∀x∈o.op.xs,ev e x=ev e' x:=fun e' hl x hx=>by
  cases x with
  |const v=>rfl
  |tmp t=>exact hl t (by simp only[AO.looks,List.mem_append,List.mem_flatMap];exact .inl ⟨_,hx,by simp[AX.slots]⟩)
 unfold EH at h⊢
 cases hg:o.guard with
 |none=>
  simp only[hg]at h⊢;obtain⟨v,h1,h2⟩:=xM hq h;exact⟨v,h1,fun e' H' K' KP' hl hh hk=>jD (hx e' hl) (h2 H' _ KP' hh hk)⟩
 |some p=>
  obtain⟨s,want⟩:=p;have hs:∀e':Env,(∀t∈o.looks,e t=e' t)→e s=e' s:=fun e' hl=>hl s (by simp[AO.looks,hg])
  simp only[hg]at h⊢;cases he:e s<;>simp only[he]at h
  ·rename_i b
   cases want<;>cases b
   ·obtain⟨v,h1,h2⟩:=xM hq h
    exact⟨v,h1,fun e' H' K' KP' hl hh hk=>by rw[←hs e' hl,he];exact jD (hx e' hl) (h2 H' _ KP' hh hk)⟩
   ·exact⟨_,h,fun e' H' K' KP' hl hh hk=>by rw[←hs e' hl,he];exact hk⟩
   ·exact⟨_,h,fun e' H' K' KP' hl hh hk=>by rw[←hs e' hl,he];exact hk⟩
   ·obtain⟨v,h1,h2⟩:=xM hq h
    exact⟨v,h1,fun e' H' K' KP' hl hh hk=>by rw[←hs e' hl,he];exact jD (hx e' hl) (h2 H' _ KP' hh hk)⟩
  ·rename_i vs
   cases vs with
   |nil=>exact⟨_,h,fun e' H' K' KP' hl hh hk=>by rw[←hs e' hl,he];exact hk⟩
   |cons=>exact False.elim h
theorem DF {M:List Nat} {E:Nat→Bool} {abJ:List AO} {i:Nat} {q:AOp} (hq:dX q=true∨isLoad q=true):qK M E abJ i q=[]:=by
 unfold qK;rw[if_neg];intro h;rcases hq with hq|hq<;>cases q<;>first|(cases hq;done)|(cases h;done)
theorem Cj {d0:Env} {G0:Heap} {c:Nat×AO→Bool} {F:Nat×AO→List (Option Nat×AX)} {G:Nat×AO→LT} {e:Env} {H:Heap} {K:Env→Heap→Prop} {KP:au→Heap→Prop}:∀(l:List (Nat×AO)) (p:Nat×AO),p∈l→c p=true→
  xlt L d0 G0 (l.foldr (fun p acc=>if c p then .alt p.2 (F p) (G p) acc else acc) .stop) e H K KP→EH L p.2 (F p) d0 G0 e H (fun e' H'=>xlt L d0 G0 (G p) e' H' K KP) KP
 |[],p,hm,_,_=>by cases hm
 |r::l,p,hm,hc,h=>by
  rw[List.foldr_cons]at h;rcases List.mem_cons.1 hm with rfl|hm
  ·rw[if_pos hc,pX]at h
   exact qZ h
  ·split at h
   ·rw[pX]at h
    exact Cj l p hm hc (yV uN h)
   ·exact Cj l p hm hc h
theorem Px {d0:Env} {G0:Heap} {c:Nat×AO→Bool} {F:Nat×AO→List (Option Nat×AX)} {G:Nat×AO→LT} {e:Env} {H:Heap} {K:Env→Heap→Prop} {KP:au→Heap→Prop}:∀(l:List (Nat×AO)),
  (∀p∈l,c p=true→EH L p.2 (F p) d0 G0 e H (fun e' H'=>xlt L d0 G0 (G p) e' H' K KP) KP)→xlt L d0 G0 (l.foldr (fun p acc=>if c p then .alt p.2 (F p) (G p) acc else acc) .stop) e H K KP
 |[],h=>trivial
 |r::l,h=>by
  rw[List.foldr_cons];have ih:=Px l fun p hp=>h p (by simp[hp])
  split
  ·rename_i hc
   rw[pX];exact sD (h r (by simp) hc) ih
  ·exact ih
theorem FB {e:Env} {d d':Option Nat} {v u:au} (h:∀t,d=some t→d'≠some t):bg (bg e d v) d' u=bg (bg e d' u) d v:=by
 cases d with
 |none=>rfl
 |some t=>
  cases d' with
  |none=>rfl
  |some t'=>
   have hne:t'≠t:=fun e0=>h t rfl (by rw[e0])
   funext j
   simp only[bg,upd]
   by_cases h1:j=t
   ·rw[if_pos h1]
    by_cases h2:j=t'
    ·exact absurd (h2.symm.trans h1) hne
    ·rw[if_neg h2,if_pos h1]
     try rfl
   ·rw[if_neg h1]
    by_cases h2:j=t'
    ·rw[if_pos h2,if_neg h1]
    ·rw[if_neg h2,if_neg h1]
theorem TM {M:List Nat} {q:Nat×AO} {rem:List (Nat×AO)} {i:Nat} (h:lg M (q::rem) i=true):lg M rem i=true:=by
 simp only[lg,List.all_cons,Bool.and_eq_true]at h⊢;exact h.2
theorem Ib {M:List Nat} {E:Nat→Bool} {abJ:List AO} {n:Nat} {q:Nat×AO} {rem:List (Nat×AO)} (h:rF M q rem=true):mkR M E abJ (n+1) (q::rem)=.alt q.2 (qK M E abJ q.1 q.2.op) (mkR M E abJ n rem) .stop:=by
 rw[mkR,if_pos h]
theorem Ow {M:List Nat} {E:Nat→Bool} {abJ:List AO} {n:Nat} {q:Nat×AO} {rem:List (Nat×AO)} (h:¬rF M q rem=true):mkR M E abJ (n+1) (q::rem)=
  (q::rem).foldr (fun p acc=>if lg M (q::rem) p.1 then .alt p.2 (qK M E abJ p.1 p.2.op) (mkR M E abJ n ((q::rem).filter fun r=>r.1 !=p.1)) acc else acc) .stop:=by
 rw[mkR,if_neg h]
theorem VH {d0:Env} {G0:Heap} {M:List Nat} {E:Nat→Bool} {abJ:List AO} {K:Env→Heap→Prop} {KP:au→Heap→Prop}:∀(n:Nat) (rem:List (Nat×AO)),rem.length≤n+1→∀(e:Env) (H:Heap),xlt L d0 G0 (mkR M E abJ (n+1) rem) e H K KP→
  ∀p∈rem,lg M rem p.1=true→EH L p.2 (qK M E abJ p.1 p.2.op) d0 G0 e H (fun e' H'=>xlt L d0 G0 (mkR M E abJ n (rem.filter fun r=>r.1 !=p.1)) e' H' K KP) KP:=by
 intro n
 induction n with
 |zero=>
  intro rem hl e H h p hp hf
  have Aj:rem=[p]:=by
   cases rem with
   |nil=>cases hp
   |cons q rem=>
    have:rem=[]:=List.eq_nil_of_length_eq_zero (by simpa using hl);subst this;rw[List.mem_singleton]at hp;rw[hp]
  clear hl hp;subst Aj;have hfl:([p].filter fun r=>r.1 !=p.1)=[]:=by simp
  rw[hfl]
  by_cases ha:rF M p []=true
  ·rw[Ib ha,pX]at h
   exact qZ h
  ·rw[Ow ha]at h
   have h2:=Cj (c:=fun r=>lg M [p] r.1) (F:=fun r=>qK M E abJ r.1 r.2.op) (G:=fun r=>mkR M E abJ 0 ([p].filter fun x=>x.1 !=r.1)) [p] p (List.mem_singleton.2 rfl) hf h;rw[hfl]at h2;exact h2
 |succ n ih=>
  intro rem hl e H h p hp hf
  cases rem with
  |nil=>cases hp
  |cons q rem=>
   by_cases ha:rF M q rem=true
   ·rw[Ib ha]at h
    simp only[rF,Bool.and_eq_true,List.all_eq_true]at ha;obtain⟨⟨hq,hfq⟩,hall⟩:=ha;have hq:dX q.2.op=true∨isLoad q.2.op=true:=by simpa using hq
    rw[pX]at h;have h:=qZ h;have hne:∀r∈rem,(r.1 !=q.1)=true:=fun r hr=>(hall r hr).1
    rcases List.mem_cons.1 hp with rfl|hp
    ·have hfl:((p::rem).filter fun r=>r.1 !=p.1)=rem:=by
      rw[List.filter_cons_of_neg (by simp)];exact List.filter_eq_self.2 hne
     rw[hfl];exact h
    ·have hpq:=hne p hp
     have hfl:((q::rem).filter fun r=>r.1 !=p.1)=q::(rem.filter fun r=>r.1 !=p.1):=by
      rw[List.filter_cons_of_pos];simp only[bne_iff_ne,ne_eq]at hpq⊢;exact fun e=>hpq e.symm
     rw[hfl];rw[DF hq]at h;obtain⟨v,h1,h2⟩:=FJ hq h;have h3:=ih rem (by simpa using hl) _ _ h1 p hp (TM hf)
     have hw:waits M p.1 q.1=false:=by
      simp only[lg,List.all_cons,Bool.and_eq_true,Bool.or_eq_true,beq_iff_eq,Bool.not_eq_true']at hf;rcases hf.1 with hf|hf
      ·exact absurd hf.symm (by simpa using hpq)
      ·exact hf
     have hcond:=(hall p hp).2;rw[hw,Bool.false_or]at hcond;simp only[Bool.and_eq_true]at hcond;obtain⟨⟨c1,c2⟩,c3⟩:=hcond
     have Tk:∀t∈p.2.looks,bg e q.2.dst v t=e t:=fun t ht=>by
      rw[nN];split
      ·rename_i hd
       rw[hd]at c2;simp only[Bool.and_eq_true,Bool.not_eq_true',List.contains_eq_mem,decide_eq_false_iff_not]at c2;exact absurd ht c2.1
      ·rfl
     have hdst:∀t,q.2.dst=some t→p.2.dst≠some t:=fun t hd=>by
      rw[hd]at c2;simp only[Bool.and_eq_true,bne_iff_ne,ne_eq]at c2;exact c2.2
     have Tj:∀(e1:Env) (u:au),∀t∈q.2.looks,bg e1 p.2.dst u t=e1 t:=fun e1 u t ht=>by
      rw[nN];split
      ·rename_i hd
       rw[hd]at c3;simp only[Bool.not_eq_true',List.contains_eq_mem,decide_eq_false_iff_not]at c3;exact absurd ht c3
      ·rfl
     have Zr:rF M q (rem.filter fun r=>r.1 !=p.1)=true:=by
      simp only[rF,Bool.and_eq_true,List.all_eq_true];refine⟨⟨by simpa using hq,?_⟩,fun r hr=>?_⟩
      ·simp only[lg,List.all_eq_true]at hfq⊢
       exact fun r hr=>hfq r (List.mem_filter.1 hr).1
      ·exact hall r (List.mem_filter.1 hr).1
     have hn:mkR M E abJ (n+1) (q::rem.filter fun r=>r.1 !=p.1)=.alt q.2 [] (mkR M E abJ n (rem.filter fun r=>r.1 !=p.1)) .stop:=by
      rw[Ib Zr,DF hq]
     rw[hn]
     by_cases hpl:dX p.2.op=true∨isLoad p.2.op=true
     ·rw[DF hpl]at h3⊢
      obtain⟨u,k1,k2⟩:=FJ hpl h3;refine k2 e H _ KP Tk (.inr rfl) ?_;rw[pX];refine sD ?_ trivial;refine h2 _ _ _ KP (fun t ht=>(Tj e u t ht).symm) (.inr rfl) ?_;rw[FB hdst]at k1;exact k1
     ·have hql:dX q.2.op=true:=by
       simp only[Bool.or_eq_true]at c1;rcases c1 with(c1|c1)|c1
       ·exact c1
       ·exact absurd (.inl c1) hpl
       ·exact absurd (.inr c1) hpl
      refine Ct Tk (fun u H' hk=>?_) h3;rw[pX];refine sD ?_ trivial;refine h2 _ _ _ KP (fun t ht=>(Tj e u t ht).symm) (.inl hql) ?_;rw[FB hdst]at hk;exact hk
   ·rw[Ow ha]at h
    have:=Cj (c:=fun r=>lg M (q::rem) r.1) (F:=fun r=>qK M E abJ r.1 r.2.op) (G:=fun r=>mkR M E abJ (n+1) ((q::rem).filter fun x=>x.1 !=r.1)) (q::rem) p hp hf h;exact this
theorem xlt_R {d0:Env} {G0:Heap} {M:List Nat} {E:Nat→Bool} {abJ:List AO} {K:Env→Heap→Prop} {KP:au→Heap→Prop} (rem:List (Nat×AO)) {e:Env} {H:Heap} (h:xlt L d0 G0 (mkR M E abJ rem.length rem) e H K KP):xlt L d0 G0 (mkT M E abJ rem.length rem) e H K KP:=by
 have key:∀(n:Nat) (rem:List (Nat×AO)),rem.length≤n→∀(e:Env) (H:Heap),xlt L d0 G0 (mkR M E abJ n rem) e H K KP→xlt L d0 G0 (mkT M E abJ n rem) e H K KP:=by
  intro n
  induction n with
  |zero=>
   intro rem hl e H h
   cases rem with
   |nil=>exact h
   |cons q rem=>cases hl
  |succ n ih=>
   intro rem hl e H h
   cases rem with
   |nil=>exact h
   |cons q rem=>
    rw[mkT];refine Px (c:=fun r=>lg M (q::rem) r.1) (F:=fun r=>qK M E abJ r.1 r.2.op) (G:=fun r=>mkT M E abJ n ((q::rem).filter fun x=>x.1 !=r.1)) (q::rem) fun p hp hf=>?_
    have hx:=VH n (q::rem) hl e H h p hp hf
    have hlen:((q::rem).filter fun x=>x.1 !=p.1).length≤n:=by
     have h1:((q::rem).filter fun x=>x.1 !=p.1).length<(q::rem).length:=by
      rcases Nat.lt_or_ge ((q::rem).filter fun x=>x.1 !=p.1).length (q::rem).length with h'|h'
      ·exact h'
      ·have h2:=List.length_filter_eq_length_iff.1 (Nat.le_antisymm (List.length_filter_le _ _) h') p hp
       simp at h2
     simp only[List.length_cons]at hl h1;omega
    exact Ct (fun _ _=>rfl) (fun u H' hk=>ih _ hlen _ _ hk) hx
 exact key _ rem (Nat.le_refl _) e H h
end Go.Ag
/- Abstract code tells what the machine's code does. -/
namespace Go.Ag
open Go
open Go.RowKit (Below)
variable {L : Lnk} {T : Tab} {g : aA} {w : World} {H : Heap} {K KP : au → Heap → Prop} {e : Env} {a : Act} {n : Nat}
theorem St.MW (h:St L g w H) {id:Nat} {r:rQ} {st:LSt} (hid:H[id]?=some (.loop r st)) (o':aU) (lo:Loop) {s:ko} (hs:g.ob id 0=some s)
  (ho:(∃st',o'=.loop r st'∧lo=r.loop st')∨o'=.gone):St L g (w.putObj s.b (.loop lo)) (H.set id o'):=by
 obtain⟨s',k1,k2,k3,k4⟩:=h.obj id _ hid;rw[hs]at k1;cases k1;obtain⟨p1,p2,p3⟩:=o7 w (o':=.loop lo) k2
 refine h.L8 (s1:=s) hid rfl hs (aA.le.refl g) rfl rfl rfl (fun _ _ _=>rfl) (fun v s h=>.inl h) (fun ha=>?_) (.inl rfl) (by rw[p3];exact h.bnd _ _ _ hs) (h.IE fun x=>by simp[World.cell?,k2]) (by rw[k2];simp)
  (fun b hb _=>p2 b hb) (by rw[p3];omega) rfl rfl rfl ?_
 ·rcases ho with⟨st',rfl,_⟩|rfl
  ·exact hs
  ·cases ha
 ·rcases ho with⟨st',rfl,rfl⟩|rfl
  ·exact⟨s,hs,p1,k3,k4⟩
  ·trivial
theorem Db {g:aA}:∀(ps:List Nat) (vs:List Value) (xs:List au) (tmps:Array Value) (e:Env),dR T.L g n tmps e→aX T.L g vs xs→(∀p∈ps,p<n)→ps.length=xs.length→
  dR T.L g n ((ps.zip vs).foldl (fun tmps (p:Nat×Value)=>tmps.setIfInBounds p.1 p.2) tmps) (Bb e ps xs)
 |[],_,_,tmps,e,h,_,_,_=>by simpa[Bb]using h
 |p::ps,vs,[],tmps,e,h,hr,hp,hl=>by simp at hl
 |p::ps,vs,x::xs,tmps,e,h,hr,hp,hl=>by
  cases hr with|cons v _ vs _ hv hs=>
  simp only[List.zip_cons_cons,List.foldl_cons,Bb];exact Db ps vs xs _ _ (h.put (hp p (by simp)) hv) hs (fun q hq=>hp q (by simp[hq])) (by simpa using hl)
theorem St.Wx (hs:St T.L g w H) (r:rQ) (hr:∀i,Rep T.L g (r.tmps.getD i undef) (r.e i)):
  ∃g2 s,g.le g2∧g2.dk w.heap.size=true∧St T.L g2 ((w.alloc (.deferred (some []))).alloc (.loop (r.loop .ready))) (H ++[.loop r .ready])∧g2.ob H.length 0=some s∧s.b=w.heap.size+1:=by
 have hm:=hs.WA;have hg1:g.le (g.mark w.heap.size):=aA.Wz g _;generalize hg1e:g.mark w.heap.size=g1 at hm hg1;have hdk:g1.dk w.heap.size=true:=by rw[←hg1e];simp[aA.mark]
 have hsz1:(w.alloc (.deferred (some []))).heap.size=w.heap.size+1:=cO _ _;generalize w.alloc (.deferred (some []))=w1 at hm hsz1⊢
 let s:ko:=⟨w1.heap.size,0,0,0⟩
 have h3:=hm.alloc (.loop (r.loop .ready));have hle:=aA.jN (hm.new H.length 0 (Nat.le_refl _)) s
 obtain⟨k1,k2⟩:=h3.push (b:=w1.heap.size) (ob:=.loop r .ready) (s:=s) rfl (by have:=cO w1 (.loop (r.loop .ready));omega) hm.new_ne
  ⟨s,aA.bF ..,dG ..,fun i=>((hr i).mono hg1).mono hle,hm.jG⟩
 exact⟨_,s,hg1.trans k1,k1.dk _ hdk,k2,aA.bF ..,hsz1⟩
theorem DOK.more {g0 g g3:aA} {ds:List Deferred} (hd:DOK g0 g ds) (hs:St T.L g w H) (hg:g0.le g) (hle:g.le g3) (hk:g3.dk w.heap.size=true):
  DOK g0 g3 ([{target:=.collected w.heap.size,args:= #[]}] ++ds):=by
 obtain⟨bs,b1,b2,b3⟩:=hd;refine⟨w.heap.size::bs,by rw[b1];rfl,List.nodup_cons.2 ⟨fun hin=>?_,b2⟩,fun b hb=>?_⟩
 ·have:=hs.Gl (b3 _ hin).1
  omega
 ·rcases List.mem_cons.1 hb with rfl|hb
  ·refine⟨hk,?_,hle.own hs.jG⟩
   cases hx:g0.dk w.heap.size with
   |false=>rfl
   |true=>have:=hs.Gl (hg.dk _ hx);omega
  ·exact⟨hle.dk _ (b3 b hb).1,(b3 b hb).2.1,hle.own (b3 b hb).2.2⟩
theorem JH {asg body:Code} {ps:Array Tmp} {fn:FuncId} {tmps:Array Value} {D l:Nat} {ca cb:AC}
  (iha:∀(ro:Option Nat) (Q:BJ→Env→Heap→Prop) (g0 g:aA) (a:Act) (w:World) (e:Env) (H:Heap),g0.le g→St T.L g w H→dR T.L g n a.tmps e→DOK g0 g a.defers→dI T.L ca e H Q→asg.wpIn (FW ro) 0 T.L.P (QOK T.L g0 n Q) a w)
  (ihb:∀(ro:Option Nat) (Q:BJ→Env→Heap→Prop) (g0 g:aA) (a:Act) (w:World) (e:Env) (H:Heap),g0.le g→St T.L g w H→dR T.L g n a.tmps e→DOK g0 g a.defers→dI T.L cb e H Q→body.wpIn (FW ro) 0 T.L.P (QOK T.L g0 n Q) a w)
  (hps:∀p∈ps.toList,p<n) (hsz:tmps.size=n) (r:rQ) (hr0:r={fn:=fn,tmps:=tmps,params:=ps,assign:=asg,body:=body,defers:=D,e:=e}) {args:List au} {H1:Heap} {R:fE→Heap→Prop} (hlen:args.length=ps.toList.length) (hl:H1[l]?=some (.loop r .ready))
  (hx:dI T.L ca (Bb e ps.toList args) H1 (uX l r fun e2 H2=>dI T.L cb e2 H2 (Hr l r R))):iZ T.L l args H1 R:=by
 intro g' w' vs s' hs' hr' ho';obtain⟨s2,c1,c2,c3,c4⟩:=hs'.obj _ _ hl;rw[ho']at c1;cases c1;have hvl:=hr'.length;have e1:r.tmps=tmps:=by rw[hr0]
 have e2:r.params=ps:=by rw[hr0]
 have e3:r.assign=asg:=by rw[hr0]
 have e4:r.body=body:=by rw[hr0]
 have e5:r.e=e:=by rw[hr0]
 have hy:=run_yield (P:=T.L.P) (args:=vs.toArray) c2 (by simp only[List.size_toArray,rQ.loop];rw[hvl,hlen,e2];simp);refine⟨_,_,_,_,hy,roundIn_of_wpIn (F:=Fence.wide) trivial ?_⟩;simp only[rQ.loop,e1,e2,e3,e4]
 have htm:((ps.zip vs.toArray).foldl (fun tmps (p:Nat×Value)=>tmps.setIfInBounds p.1 p.2) tmps)=((ps.toList.zip vs).foldl (fun tmps (p:Nat×Value)=>tmps.setIfInBounds p.1 p.2) tmps):=by
  rw[←Array.foldl_toList,Array.toList_zip]
 have hrT:dR T.L g' n tmps e:=⟨hsz,fun i=>by have:=c3 i;rwa[e1,e5]at this⟩;have hrT2:=Db (T:=T) (n:=n) ps.toList vs args tmps e hrT hr' hps (by rw[hlen]);rw[←htm]at hrT2;refine wpIn_mono (iha (some s'.b) _ g' g' {tmps:=(ps.zip vs.toArray).foldl (fun tmps (p:Nat×Value)=>tmps.setIfInBounds p.1 p.2) tmps,defers:=[]} w' _ H1 (aA.le.refl g') hs' hrT2 DOK.nil hx) fun ex a1 w1 hq=>?_
 cases ex with
 |normal=>
  obtain⟨ee,H2,g4,d1,d2,d3,d4,d5⟩:=hq;simp only[uX]at d1;split at d1
  rotate_left
  ·exact d1.elim
  rename_i r' hl2;obtain⟨rfl,d1⟩:=d1;have ho4:=d2.ob _ _ _ ho';obtain⟨s3,f4,f5,f6,f7⟩:=d3.obj _ _ hl2;rw[ho4]at f4;cases f4;have hbr:=run_beginRound (P:=T.L.P) f5 rfl;have hst5:=d3.MW hl2 (.loop r' .busy) (r'.loop .busy) ho4 (.inl ⟨.busy,rfl,rfl⟩);refine⟨_,hbr,wpIn_mono (ihb (some s'.b) _ g' g4 a1 _ ee _ d2 hst5 d4 d5 d1) fun ex a2 w2 hq=>?_⟩
  have fin:∀(st:LSt) (jump:Option Code) (b:Bool),jump.isNone=b→(if jump.isNone then LoopState.ready else LoopState.done)=st.state→jump=st.pending→SOK T.L g' n (fun _ H3=>C8 l r' st (R (.ret (.bool b))) H3) a2 w2→
    ∃v w'',(Instr.endRound s'.b jump).run T.L.P w2=.ok v w''∧∃r_1 H' g'',R r_1 H'∧g'.le g''∧St T.L g'' w'' H'∧Jb T.L g'' (.returned v) r_1:=by
   rintro st jump b rfl hst hj ⟨e3,H3,g6,i1,i2,i3,i4,i5⟩
   simp only[C8]at i1;split at i1
   rotate_left
   ·exact i1.elim
   rename_i r'' hl3;obtain⟨rfl,i1⟩:=i1;have ho6:=i2.ob _ _ _ ho';obtain⟨s5,j4,j5,_,_⟩:=i3.obj _ _ hl3;rw[ho6]at j4;cases j4;have her:=run_endRound (P:=T.L.P) jump j5
   have e6:({r''.loop .busy with state:=if jump.isNone then .ready else .done,pending:=jump}:Loop)=r''.loop st:=by
    rw[hst,hj];rfl
   rw[e6]at her;exact⟨_,_,her,_,_,g6,i1,i2,i3.MW hl3 (.loop r'' st) (r''.loop st) ho6 (.inl ⟨st,rfl,rfl⟩),_,rfl,.bool _⟩
  cases ex with
  |normal=>exact fin .ready none true rfl rfl rfl hq
  |ret=>exact fin .ret (some .ret) false rfl rfl rfl hq
  |exit id=>exact fin (.exit id) (some (.exit id)) false rfl rfl rfl hq
  |goto l=>exact hq.elim
  |outgrown=>exact hq.elim
  |panic ch=>obtain⟨_,_,_,_,_,_,hq,_⟩:=hq;exact hq.elim
 |exit id=>obtain⟨_,_,_,hq,_⟩:=hq;exact hq.elim
 |ret=>obtain⟨_,_,_,hq,_⟩:=hq;exact hq.elim
 |goto l=>exact hq.elim
 |outgrown=>exact hq.elim
 |panic ch=>obtain⟨_,_,_,_,_,_,hq,_⟩:=hq;exact hq.elim
theorem Dw {g0 g3:aA} {w3:World} {H':Heap} {r:rQ} {st:LSt} {l D:Nat} {s:ko} {QQ:Env→Heap→Prop} {tmps:Array Value} {ds:List Deferred} (hst:st.state≠.busy) (hg:g0.le g3) (q3:St T.L g3 w3 H') (hl:H'[l]?=some (.loop r st)) (hob:g3.ob l 0=some s) (hb:s.b=D)
  (hr:dR T.L g3 n tmps e) (hd:DOK g0 g3 ds) (hq:QQ e (H'.set l .gone)):
  ∃w4,(Instr.endLoop D).run T.L.P w3=.ok st.pending w4∧SOK T.L g0 n QQ {tmps:=tmps,defers:=ds} w4:=by
 obtain⟨s',c1,c2,c3,c4⟩:=q3.obj _ _ hl;rw[hob]at c1;cases c1;subst hb;exact⟨_,run_endLoop (P:=T.L.P) c2 hst,e,_,g3,hq,hg,q3.MW hl .gone {r.loop st with state:=.exhausted} hob (.inr rfl),hr,hd⟩
theorem Nz {m:Bool} {n:Nat}:∀(c:Code) (ac:AC),lN m T n c=some ac→∀(ro:Option Nat),(ro=none∨jW c=true)→∀(Q:BJ→Env→Heap→Prop) (g0 g:aA) (a:Act) (w:World) (e:Env) (H:Heap),g0.le g→St T.L g w H→dR T.L g n a.tmps e→DOK g0 g a.defers→
  dI T.L ac e H Q→c.wpIn (FW ro) 0 T.L.P (QOK T.L g0 n Q) a w:=by
 intro c
 induction c with
 |skip=>intro ac hc ro hro Q g0 g a w e H hg hs hr hd h;cases hc;exact wpIn_skip ⟨e,H,g,h,hg,hs,hr,hd⟩
 |label l=>intro ac hc ro hro Q g0 g a w e H hg hs hr hd h;cases hc;exact wpIn_label ⟨e,H,g,h,hg,hs,hr,hd⟩
 |exit id=>intro ac hc ro hro Q g0 g a w e H hg hs hr hd h;cases hc;exact wpIn_exit ⟨e,H,g,h,hg,hs,hr,hd⟩
 |ret=>intro ac hc ro hro Q g0 g a w e H hg hs hr hd h;cases hc;exact wpIn_ret ⟨e,H,g,h,hg,hs,hr,hd⟩
 |region id ops d=>
  intro ac hc ro hro Q g0 g a w e H hg hs hr hd h;simp only[lN]at hc
  cases h1:qC T n ops ops.toList with
  |none=>simp only[h1]at hc;cases hc
  |some l=>
   simp only[h1]at hc;have hKK:∀a w e' H' g,Q .normal e' H'→g0.le g→St T.L g w H'→dR T.L g n a.tmps e'→DOK g0 g a.defers→QOK T.L g0 n Q .normal a w:=fun a w e H g k1 k2 k3 k4 k5=>⟨e,H,g,k1,k2,k3,k4,k5⟩
   have hPP:∀e' v x a w H' g,Q (.pan x) e' H'→g0.le g→St T.L g w H'→Rep T.L g v x→DOK g0 g a.defers→QOK T.L g0 n Q (.panic [⟨v,false,false⟩]) a w:=fun e' v x a w H g k1 k2 k3 k4 k5=>⟨v,x,_,H,g,rfl,k1,k2,k3,k4,k5⟩
   cases d with
   |true=>
    have key:∀E,oK false true ops l (masks ops.toList []) E=true→T.L.P.follows .mixedOrders=true→ac=.draw (oJ E 0 l) ((kK E 0 l).map (·.2))→(Code.region id ops true).wpIn (FW ro) 0 T.L.P (QOK T.L g0 n Q) a w:=by
     rintro E hok hm rfl
     exact Ns (T:=T) (n:=n) (g0:=g0) (Q:=QOK T.L g0 n Q) (K:=fun e' H'=>Q .normal e' H') (KP:=fun v H'=>∃e',Q (.pan v) e' H') hm hok h1 hKK
      (fun v x a w H g ⟨e',k1⟩=>hPP e' v x a w H g k1) hg hs hr hd
      (gP (fun e' H' hx=>zM (fun _ _ h=>h) (fun _ _ h=>⟨_,h⟩) hx) h)
    simp only[if_true,Aq]at hc;split at hc
    ·rename_i hm
     split at hc
     ·rename_i hok
      simp only[Bool.and_eq_true]at hok;obtain rfl:=Option.some.inj hc
      exact rD (T:=T) (n:=n) (lin:=false) (g0:=g0) (Q:=QOK T.L g0 n Q) (K:=fun e' H'=>Q .normal e' H') (KP:=fun v H'=>∃e',Q (.pan v) e' H') hm hok.1.2 (fun _=>hok.2) h1 hKK
       (fun v x a w H g ⟨e',k1⟩=>hPP e' v x a w H g k1) hg hs hr hd
       (gP (fun e' H' hx=>xlt_R _ (yB (fun _ _ h=>h) (fun _ _ h=>⟨_,h⟩) hx)) h)
     split at hc
     ·rename_i hok
      exact key _ hok hm (Option.some.inj hc).symm
     ·split at hc
      ·rename_i hok
       simp only[Bool.and_eq_true]at hok;obtain rfl:=Option.some.inj hc
       exact rD (T:=T) (n:=n) (lin:=true) (g0:=g0) (Q:=QOK T.L g0 n Q) (K:=fun e' H'=>Q .normal e' H') (KP:=fun v H'=>∃e',Q (.pan v) e' H') hm hok.1.2 (fun _=>hok.2) h1 hKK
        (fun v x a w H g ⟨e',k1⟩=>hPP e' v x a w H g k1) hg hs hr hd
        (gP (fun e' H' hx=>yB (fun _ _ h=>h) (fun _ _ h=>⟨_,h⟩) hx) h)
      ·split at hc
       ·rename_i hok
        exact key _ hok hm (Option.some.inj hc).symm
       ·split at hc
        ·split at hc
         ·rename_i hok
          simp only[Bool.and_eq_true]at hok;obtain rfl:=Option.some.inj hc
          exact rD (T:=T) (n:=n) (lin:=false) (g0:=g0) (Q:=QOK T.L g0 n Q) (K:=fun e' H'=>Q .normal e' H') (KP:=fun v H'=>∃e',Q (.pan v) e' H') hm hok.1 (fun _=>hok.2) h1 hKK
           (fun v x a w H g ⟨e',k1⟩=>hPP e' v x a w H g k1) hg hs hr hd
           (gP (fun e' H' hx=>yB (fun _ _ h=>h) (fun _ _ h=>⟨_,h⟩) hx) h)
         ·cases hc
        ·cases hc
    ·cases hc
   |false=>
    simp only[Bool.false_eq_true,if_false]at hc;cases hc;refine wpIn_region ?_
    have:=FI (T:=T) (n:=n) (ro:=ro) (ops:=ops) (g0:=g0) (K:=fun e' H'=>Q .normal e' H') (KP:=fun v H'=>Q (.pan v) e H') (Q:=QOK T.L g0 n Q)
     hKK (fun v x a w H g=>hPP e v x a w H g) ops.toList 0 l (by simp) h1 a w e H g hg hs hr hd h
    simpa[List.range_eq_range']using this
 |seq x y ihx ihy=>
  intro ac hc ro hro Q g0 g a w e H hg hs hr hd h;simp only[lN]at hc;cases h1:lN m T n x<;>cases h2:lN m T n y<;>simp only[h1,h2]at hc<;>cases hc;rename_i ax ay
  have Tf:(ro=none∨jW x=true)∧(ro=none∨jW y=true):=by
   rcases hro with h|h
   ·exact⟨.inl h,.inl h⟩
   ·simp only[jW,Bool.and_eq_true]at h;exact⟨.inr h.1,.inr h.2⟩
  refine wpIn_seq (wpIn_mono (ihx ax h1 ro Tf.1 _ g0 g a w e H hg hs hr hd h) fun ex a' w' hq=>?_)
  cases ex with
  |normal=>
   obtain⟨e',H',g',k2,k3,k4,k5,k6⟩:=hq;exact ihy ay h2 ro Tf.2 Q g0 g' a' w' e' H' k3 k4 k5 k6 k2
  |exit i=>exact hq
  |goto l=>exact hq
  |ret=>exact hq
  |panic ch=>exact hq
  |outgrown=>exact hq
 |cond c x y ihx ihy=>
  intro ac hc ro hro Q g0 g a w e H hg hs hr hd h;simp only[lN]at hc;cases h0:cX T c<;>cases h1:lN m T n x<;>cases h2:lN m T n y<;>simp only[h0,h1,h2]at hc<;>cases hc;rename_i cx ax ay
  have Tf:(ro=none∨jW x=true)∧(ro=none∨jW y=true):=by
   rcases hro with h|h
   ·exact⟨.inl h,.inl h⟩
   ·simp only[jW,Bool.and_eq_true]at h;exact⟨.inr h.1,.inr h.2⟩
  have hrc:=bQ h0 hr;simp only[dI]at h;cases hb:ev e cx<;>simp only[hb]at h;rename_i b;rw[hb]at hrc;refine wpIn_cond (kE hrc) ?_;cases b
  ·exact ihy ay h2 ro Tf.2 Q g0 g a w e H hg hs hr hd h
  ·exact ihx ax h1 ro Tf.1 Q g0 g a w e H hg hs hr hd h
 |block id c ih=>
  intro ac hc ro hro Q g0 g a w e H hg hs hr hd h;obtain⟨ax,h1,rfl⟩:=map_some hc;refine wpIn_block (wpIn_mono (ih ax h1 ro hro _ g0 g a w e H hg hs hr hd h) fun ex a' w' hq=>?_)
  cases ex with
  |exit i=>
   obtain⟨e',H',g',k2,k3,k4,k5,k6⟩:=hq;show if i=id then _ else _
   simp only[Vo]at k2;cases hb:i==id<;>simp only[hb]at k2
   ·rw[if_neg (by simpa using hb)];exact⟨e',H',g',k2,k3,k4,k5,k6⟩
   ·rw[if_pos (by simpa using hb)];exact⟨e',H',g',k2,k3,k4,k5,k6⟩
  |normal=>exact hq
  |goto l=>exact hq
  |ret=>exact hq
  |panic ch=>exact hq
  |outgrown=>exact hq
 |loop c ih=>
  intro ac hc ro hro Q g0 g a w e H hg hs hr hd h;obtain⟨ax,h1,rfl⟩:=map_some hc
  have key:=h (fun e H=>∀(g1:aA) (a:Act) (w:World),g0.le g1→St T.L g1 w H→dR T.L g1 n a.tmps e→DOK g0 g1 a.defers→
    ∀(b:Frame) (k:List Item) (cs:List Frame),b.roundOf=ro→∃ex a' w',QOK T.L g0 n Q ex a' w'∧ArrivesIn (Machine.fenced T.L.P (FW ro)) T.L.P (lone (b.atR a (.code c::.inLoop c::k)) cs w) b k cs ex a' w') ?_ ?_
  ·intro b k cs hb _ _
   obtain⟨ex,a',w',hq,harr⟩:=key g a w hg hs hr hd b k cs hb;exact⟨ex,a',w',hq,.of_steps (.one (fenced_calm (F:=FW ro) (n:=0) trivial (room_wide _) rfl) stepR_loop) harr⟩
  rotate_left
  ·intro e1 e2 H1 K J he hK hw hlo hn hI g1 a1 w1 hg1 hs1 hr1 hd1
   have hs2:=hs1.forget hK hw hlo
   exact hI (g1.cut H1.length) a1 w1 (aA.Af hg1 fun i v hi=>by
    cases hx:g0.ob i v with
    |none=>rfl
    |some s=>have:=hg.ob _ _ _ hx;rw[hs.new i v (by omega)]at this;cases this) hs2 ⟨hr1.size,fun i=>((he i).1 _ _ (hr1.rep i)).cut (he i).2⟩ hd1
  ·intro e H hx g2 a w hg2 hs hr hd b k cs hb
   obtain⟨ex,a₁,w₁,hq,harr⟩:=ih ax h1 ro hro _ g0 g2 a w e H hg2 hs hr hd hx b (.inLoop c::k) cs hb trivial (room_wide _)
   cases ex with
   |normal=>
    obtain⟨e',H',g',k2,k3,k4,k5,k6⟩:=hq;obtain⟨ex₂,a₂,w₂,hq₂,harr₂⟩:=k2 g' a₁ w₁ k3 k4 k5 k6 b k cs hb;exact⟨ex₂,a₂,w₂,hq₂,.of_steps (StepsIn.trans harr (.one (fenced_calm (F:=FW ro) (n:=0) trivial (room_wide _) rfl) stepR_inLoop)) harr₂⟩
   |exit id=>exact⟨.exit id,a₁,w₁,hq,.pass (x:=.inLoop c) rfl (fun _ _=>.inl (by simp)) harr⟩
   |goto l=>exact hq.elim
   |ret=>exact⟨.ret,a₁,w₁,hq,.pass (x:=.inLoop c) rfl (fun _ _=>.inl (by simp)) harr⟩
   |panic ch=>exact⟨.panic ch,a₁,w₁,hq,.pass (x:=.inLoop c) rfl (fun _ _=>.inl (by simp)) harr⟩
   |outgrown=>exact hq.elim
 |rangeFunc f ps asg body iha ihb=>
  intro ac hc ro hro Q g0 g a w e H hg hs hr hd h;rcases hro with rfl|hro
  rotate_left
  ·cases hro
  simp only[lN]at hc;cases h0:cX T f<;>cases h1:lN m T n asg<;>cases h2:lN m T n body<;>simp only[h0,h1,h2]at hc<;>try(cases hc;done)
  rename_i cf ca cb;split at hc
  rotate_left
  ·cases hc
  rename_i Tw;cases hc;simp only[Bool.and_eq_true,List.all_eq_true,decide_eq_true_eq]at Tw;obtain⟨⟨hna,hnb⟩,hps⟩:=Tw;have hrf:=bQ h0 hr;simp only[dI]at h;cases hb:ev e cf<;>simp only[hb]at h;rename_i af afi aca;cases af<;>simp only at h;rename_i k;rw[hb]at hrf;generalize hv:a.eval f=v at hrf
  cases hrf with
  |fn ff _ vfi vca _ _ hfr hr1 hr2=>
  cases ff<;>simp only[LP]at hfr;rename_i fid;obtain⟨rfl,hcall⟩:=hfr;refine wpIn_rangeFunc fun fn _=>?_
  let r:rQ:={fn:=fn,tmps:=a.tmps,params:=ps,assign:=asg,body:=body,defers:=w.heap.size,e:=e}
  obtain⟨g2,s,hg2,hk2,k2,hobs,hsb⟩:=hs.Wx r hr.rep
  have hargs:aX T.L g2 (vfi ++[.func (.yield s.b) #[] #[]] ++vca) (afi ++[.yld H.length] ++aca):=
   ((hr1.mono hg2).append (.cons _ _ _ _ (.yld _ s hobs) .nil)).append (hr2.mono hg2)
  have hC:=h r rfl (fun args H1 R hlen hl hx=>JH (fun ro=>iha ca h1 ro (.inr hna)) (fun ro=>ihb cb h2 ro (.inr hnb)) hps hr.size r rfl hlen hl hx) g2 _ _ k2 hargs;obtain⟨fn',f1,f2,f3⟩:=hcall
  have hcf:∀args w,(callFunc (T.L.num k) args).run T.L.P w=.ok (.enter (T.L.num k) args) w:=fun args w=>by
   unfold callFunc;have h4:¬fn'.body=none:=by intro e0;rw[e0]at f2;cases f2
   have h5:¬fn'.name= "runtime.NumGoroutine" :=by simpa using f3
   simp[f1,h4,h5]
  have e1:(vfi ++[Value.func (.yield s.b) #[] #[]] ++vca).toArray=vfi.toArray ++ #[.func (.yield (w.heap.size+1)) #[] #[]] ++vca.toArray:=by
   rw[hsb];apply Array.ext';simp
  rw[e1]at hC
  refine⟨w.heap.size+1,[{target:=.collected w.heap.size,args:= #[]}],_,{target:=.fn (.func (T.L.num k)) vca.toArray,args:=vfi.toArray ++ #[.func (.yield (w.heap.size+1)) #[] #[]]},(w.alloc (.deferred (some []))).alloc (.loop (r.loop .ready)),T.L.num k,
   _,(w.alloc (.deferred (some []))).alloc (.loop (r.loop .ready)),run_enterLoop_outer _ _ _ _ _,by simp[resolve,Deferred.ofValue,hv];exact⟨rfl,rfl⟩,fun _ _=>trivial,by simp[invoke,hcf],fun hx=>(by cases hx),Et (Calls.mono hC ?_)⟩
  intro en w3 hh;obtain⟨rr,H',g3,q1,q2,q3,q4⟩:=hh;have hle:g.le g3:=hg2.trans q2;have Zl:g3.ob H.length 0=some s:=q2.ob _ _ _ hobs;have WR:=hd.more hs hg hle (q2.dk _ hk2)
  cases rr with
  |pan x=>
   obtain⟨v,rfl,hrep⟩:=q4;exact⟨v,x,e,H',g3,rfl,q1,hg.trans hle,q3,hrep,WR⟩
  |ret x=>
   obtain⟨v,rfl,hrep⟩:=q4;simp only[Kg]at q1;split at q1
   ·rename_i r' hl
    obtain⟨rfl,q1⟩:=q1;obtain⟨w4,d1,d2⟩:=Dw (st:=.ready) (by simp[LSt.state]) (hg.trans hle) q3 hl Zl hsb (hr.mono hle) WR q1;exact⟨_,w4,d1,d2⟩
   ·rename_i r' hl
    obtain⟨rfl,q1⟩:=q1;obtain⟨w4,d1,d2⟩:=Dw (st:=.ret) (by simp[LSt.state]) (hg.trans hle) q3 hl Zl hsb (hr.mono hle) WR q1;exact⟨_,w4,d1,wpIn_ret d2⟩
   ·rename_i r' id hl
    obtain⟨rfl,q1⟩:=q1;obtain⟨w4,d1,d2⟩:=Dw (st:=.exit id) (by simp[LSt.state]) (hg.trans hle) q3 hl Zl hsb (hr.mono hle) WR q1;exact⟨_,w4,d1,wpIn_exit d2⟩
   ·exact q1.elim
 |_=>intro ac hc;cases hc
def Da (tmps:Array Value):ResultVar→Sem Value
 |.tmp t=>pure (tmps.getD t undef)
 |.cell a t=>do loadVar t (←asAddr (tmps.getD a undef))
theorem M4 {L:Lnk} {g:aA} {w:World} {H:Heap} (hs:St L g w H) {k:Option Nat} {a x:au} (h:loadAt H k a=some x) {v:Value} (hr:Rep L g v a):∃ad,v=.pointer (some ad):=by
 unfold loadAt at h
 cases k with
 |none=>
  dsimp only at h;split at h
  ·rename_i c hc
   obtain⟨b,o,vs,rfl,_⟩:=nS hs hc hr;exact⟨_,rfl⟩
  ·cases h
 |some k=>
  dsimp only at h
  cases hc:fI H a k with
  |none=>rw[hc]at h;cases h
  |some cs=>
   obtain⟨b,o,vs,rfl,_⟩:=nS hs hc hr;exact⟨_,rfl⟩
theorem Fu (hs:St T.L g w H) {tmps:Array Value} (hr:dR T.L g n tmps e):∀(rs:List ResultVar) (abJ:List LW) (vs:List au),EW T rs=some abJ→uY e H abJ=some vs→
  ∃us,(rs.mapM (Da tmps)).run T.L.P w=.ok us w∧aX T.L g us vs
 |[],abJ,vs,h,h'=>by cases h;cases h';exact⟨[],rfl,.nil⟩
 |r::rs,abJ,vs,h,h'=>by
  have one:∃ar as',abJ=ar::as'∧EW T rs=some as'∧∀v,Y6 e H ar=some v→∃u,(Da tmps r).run T.L.P w=.ok u w∧Rep T.L g u v:=by
   cases r with
   |tmp t=>
    simp only[EW]at h;obtain⟨as',h1,rfl⟩:=map_some h;refine⟨_,_,rfl,h1,fun v hv=>⟨_,rfl,?_⟩⟩;cases hv;exact hr.rep t
   |cell b t=>
    simp only[EW]at h;cases h1:T.agg t<;>cases h2:EW T rs<;>simp only[h1,h2]at h<;>cases h;refine⟨_,_,rfl,rfl,fun v hv=>?_⟩;obtain⟨z,k1,k2⟩:=Dx hs h1 hv (hr.rep b);refine⟨z,?_,k2⟩;rw[←k1];unfold Instr.loadAt Da;obtain⟨ad,hp⟩:=M4 hs hv (hr.rep b);simp only[Sem.run_bind,hp];rfl
  obtain⟨ar,as',rfl,h1,h2⟩:=one;simp only[uY]at h'
  cases h3:Y6 e H ar with
  |none=>simp only[h3]at h';cases h'
  |some v=>
   cases h4:uY e H as' with
   |none=>simp only[h3,h4]at h';cases h'
   |some vs'=>
    simp only[h3,h4]at h';cases h';obtain⟨u,k1,k2⟩:=h2 v h3;obtain⟨us,k3,k4⟩:=Fu hs hr rs as' vs' h1 h4;exact⟨u::us,by simp[List.mapM_cons,k1,k3],.cons _ _ _ _ k2 k4⟩
theorem EM {fn:Func} {abJ:List LW} {vs:List au} (hs:St T.L g w H) {tmps:Array Value} (hr:dR T.L g n tmps e) (h1:EW T fn.results.toList=some abJ) (h2:uY e H abJ=some vs):
  ∃v,(results fn tmps).run T.L.P w=.ok v w∧Rep T.L g v (Wl vs):=by
 obtain⟨us,k1,k2⟩:=Fu hs hr fn.results.toList abJ vs h1 h2
 have hm:(fn.results.mapM (Da tmps)).run T.L.P w=.ok us.toArray w:=by
  rw[Array.mapM_eq_mapM_toList];simp[k1]
 have hres:(results fn tmps).run T.L.P w=.ok (if h:us.toArray.size=1 then us.toArray[0]else .tuple us.toArray) w:=by
  have:results fn tmps=(do let vs←fn.results.mapM (Da tmps);pure (if h:vs.size=1 then vs[0]else .tuple vs)):=by
   unfold results
   congr 1
  rw[this,Sem.run_bind,hm];rfl
 refine⟨_,hres,?_⟩
 match us,vs,k2 with
 |[],[],k2=>simp only[List.size_toArray,List.length_nil];exact .tup _ _ k2
 |[u],[v],.cons _ _ _ _ k3 _=>simpa[Wl]using k3
 |u::u'::us,v::v'::vs,k2=>
  have:¬((u::u'::us).toArray.size=1):=by simp
  rw[dif_neg this];exact .tup _ _ k2
theorem y7 {L:Lnk} {F:Fence} {m:Nat} {fn:Func} {tmps:Array Value} {R:Ending→World→Prop} {u:FrameMode} (hu:u≠.run) {g0 g:aA} {w:World} {H:Heap} {ds:List Deferred} {vs:Nat→Value} {xs:Nat→au}
  (hg:g0.le g) (hs:St L g w H) (hr:∀i,Rep L g (vs i) (xs i)) (hd:DOK g0 g ds) (h:∀g' w',g0.le g'→St L g' w' H→(∀i,Rep L g' (vs i) (xs i))→LeavesIn F m L.P fn tmps R [] u w'):
  LeavesInM F m L.P fn tmps R ds u w:=by
 obtain⟨bs,rfl,hn,hb⟩:=hd
 induction bs generalizing g w with
 |nil=>exact h g w hg hs hr
 |cons b bs ih=>
  obtain⟨b1,b2,b3⟩:=hb b (by simp);have hn:=List.nodup_cons.1 hn;refine⟨hu,.inl ⟨b,_,rfl,run_takeDeferred (hs.dk b b1),?_⟩⟩;refine ih (g:=g.xL b) (aA.Qx hg b2) (hs.SE b1 b3.2 b3.1) (fun i=>Rep.sF (g:=g) (g':=g.xL b) (fun _ _ _ h=>h) (fun _ _ _ h=>h) (hr i)) hn.2 fun b' hb'=>?_
  obtain⟨c1,c2,c3⟩:=hb b' (by simp[hb']);refine⟨?_,c2,c3⟩;simp only[aA.xL];rw[if_neg (fun e=>hn.1 (by rw[←e];exact hb'))];exact c1
theorem Az {T:Tab} {f:Nat} {af:aM} (hf:T.has f af) {args:List au} {H:Heap} {Q:fE→Heap→Prop} (hlen:args.length≤af.ntmps) (h:xfunc T.L af args H Q):aC T.L f args H Q:=by
 obtain⟨fn,h1,m,am,rd,lv,h2⟩:=hf;unfold YK at h2
 cases hb:fn.body with
 |none=>simp only[hb]at h2;cases h2
 |some c=>
  cases h3:lN m {T with am:=am,rd:=rd,lv:=lv} fn.ntmps c<;>cases h4:EW {T with am:=am,rd:=rd,lv:=lv} fn.results.toList<;>simp only[hb,h3,h4]at h2<;>cases h2;rename_i ac abJ;intro g w vs hs hr;have hvl:=hr.length;have hlen:args.length≤fn.ntmps:=hlen;refine(callsIn_wide (n:=0)).1 (callsIn_of_wp_marks (F:=FW none) h1 hb trivial (wpIn_mono (Nz (T:={T with am:=am,rd:=rd,lv:=lv}) c ac h3 none (.inl rfl) _ g g _ w _ H (aA.le.refl g) hs ⟨?_,fun i=>?_⟩ DOK.nil h) fun ex a' w' hq=>?_) rfl)
  ·simp;omega
  ·have e1:(vs.toArray ++Array.replicate (fn.ntmps-vs.toArray.size) undef).getD i undef=vs.getD i undef:=by
    simp only[Array.getD_eq_getD_getElem?,List.getD_eq_getElem?_getD,Array.getElem?_append,List.size_toArray,List.getElem?_toArray];split
    ·rfl
    ·rw[List.getElem?_eq_none (by omega)]
     simp only[Array.getElem?_replicate];split<;>rfl
   rw[e1]
   cases hx:args[i]? with
   |none=>
    have:args.getD i .undef=.undef:=by simp[hx]
    rw[this];exact .undef _
   |some x=>
    obtain⟨v,k1,k2⟩:=hr.at i x hx;simpa[hx,k1]using k2
  ·have fin:∀(x:BJ),(x=.normal∨x=.ret)→SOK T.L g fn.ntmps (TK abJ Q x) a' w'→LeavesInM (FW none) 0 T.L.P fn a'.tmps (fun e w'=>∃r H' g',Q r H'∧g.le g'∧St T.L g' w' H'∧Jb T.L g' e r) a'.defers .returning w':=by
    rintro x hx ⟨e',H',g',k2,k3,k4,k5,k6⟩
    have k2:(match uY e' H' abJ with
      |some vs=>Q (.ret (Wl vs)) H'
      |none=>False):=by rcases hx with rfl|rfl<;>exact k2
    cases hv:uY e' H' abJ with
    |none=>rw[hv]at k2;exact k2.elim
    |some vs'=>
     rw[hv]at k2;refine y7 (by simp) k3 k4 (fun i=>k5.rep i) k6 fun g'' w'' l1 l2 l3=>?_
     obtain⟨v,q1,q2⟩:=EM (T:={T with am:=am,rd:=rd,lv:=lv}) l2 ⟨k5.size,l3⟩ h4 hv;exact⟨v,q1,_,H',g'',k2,l1,l2,v,rfl,q2⟩
   cases ex with
   |normal=>exact fin .normal (.inl rfl) hq
   |ret=>exact fin .ret (.inr rfl) hq
   |panic chain=>
    obtain⟨v,x,e',H',g',rfl,k2,k3,k4,k5,k6⟩:=hq;refine y7 (vs:=fun _=>v) (xs:=fun _=>x) (by simp) k3 k4 (fun _=>k5) k6 fun g'' w'' l1 l2 l3=>?_
    exact⟨.pan x,H',g'',k2,l1,l2,v,rfl,l3 0⟩
   |exit i=>obtain⟨e',H',g',k2,_⟩:=hq;exact k2.elim
   |goto l=>exact hq.elim
   |outgrown=>exact hq.elim
end Go.Ag
/- The same condition, with values reckoned as soon as they are known (so that terms stay small). -/
namespace Go.Ag
open Go
variable {L : Lnk}
def force (v:au) (K:au→Prop):Prop:=match v with
 |.undef=>K .undef
 |.bool b=>K (.bool b)
 |.int k n=>K (.int k n)
 |.str s=>K (.str s)
 |.ptr i o=>K (.ptr i o)
 |.eD=>K .eD
 |.lZ cs=>K (.lZ cs)
 |.lst xs tk=>K (.lst xs tk)
 |.arr i v o n=>K (.arr i v o n)
 |.map i=>K (.map i)
 |.gW=>K .gW
 |.fn f a c=>K (.fn f a c)
 |.lM=>K .lM
 |.iface t x=>K (.iface t x)
 |.eT=>K .eT
 |.agg cs=>K (.agg cs)
 |.tup vs=>K (.tup vs)
 |.qN xs tk=>K (.qN xs tk)
 |.yld i=>K (.yld i)
 |.vec i v k o n=>K (.vec i v k o n)
 |.jv i v o=>K (.jv i v o)
theorem force_eq (v:au) (K:au→Prop):force v K=K v:=by cases v<;>rfl
def evs (e:Env):List AX→(List au→Prop)→Prop
 |[],K=>K []
 |x::xs,K=>force (ev e x) fun v=>evs e xs fun vs=>K (v::vs)
theorem oI (e:Env):∀(xs:List AX) (K:List au→Prop),evs e xs K=K (xs.map (ev e))
 |[],K=>rfl
 |x::xs,K=>by simp only[evs,force_eq,oI e xs,List.map_cons]
def Ot :List (Nat×Nat)→List au→Nat→Prop
 |[],_,_=>True
 |(o,k)::ps,v::vs,n=>(jH k v∧o+k≤n)∧Ot ps vs n
 |_,_,_=>False
def RL :List (Nat×Nat)→List au→List (Nat×List au)
 |(o,_)::ps,v::vs=>(o,v.cells)::RL ps vs
 |_,_=>[]
theorem FK (e:Env) (n:Nat):∀(ps:List (Nat×Nat×AX)),Ot (ps.map fun p=>(p.1,p.2.1)) (ps.map fun p=>ev e p.2.2) n→∀p∈ps,jH p.2.1 (ev e p.2.2)∧p.1+p.2.1≤n
 |[],_,p,hp=>by cases hp
 |q::ps,h,p,hp=>by
  rcases List.mem_cons.1 hp with rfl|hp
  ·exact h.1
  ·exact FK e n ps h.2 p hp
theorem Jc (e:Env):∀(ps:List (Nat×Nat×AX)),RL (ps.map fun p=>(p.1,p.2.1)) (ps.map fun p=>ev e p.2.2)=ps.map fun p=>(p.1,(ev e p.2.2).cells)
 |[]=>rfl
 |q::ps=>by simp only[List.map_cons,RL,Jc e ps]
def iC (L:Lnk) (q:AOp) (e:Env) (H:Heap) (K KP:au→Heap→Prop):Prop:=
 match q with
 |.build z parts=>evs e (parts.map (·.2.2)) fun vs=>Ot (parts.map fun p=>(p.1,p.2.1)) vs z.length∧K (.agg (Bv z (RL (parts.map fun p=>(p.1,p.2.1)) vs))) H
 |.lit k _ _ _ parts=>evs e (parts.map (·.2)) fun vs=>(∀v∈vs,jH k v)∧K (.lst vs .full) H
 |.mkI t x=>force (ev e x) fun v=>K (.iface t v) H
 |.mkF f fi ca=>evs e fi fun a=>evs e ca fun c=>K (.fn f a c) H
 |.append k bytes t s x=>force (ev e s) fun s=>force (ev e x) fun x=>lH k bytes t s x H K
 |.jY bytes t s x=>force (ev e s) fun s=>force (ev e x) fun x=>Gy bytes t s x H K
 |.load k a=>force (ev e a) fun a=>match loadAt H k a with
  |some v=>K v H
  |none=>False
 |.store k a x=>force (ev e a) fun a=>force (ev e x) fun x=>jH k x∧match storeAt H k a x with
  |some H'=>K .undef H'
  |none=>False
 |.call f args=>evs e args fun abJ=>aC L f abJ H (eB K KP)
 |.box t x=>force (ev e x) fun v=>v.cells.all uJ=true∧K (.ptr H.length 0) (H ++[.cells v.cells t])
 |.look kk z ok m k=>force (ev e m) fun m=>force (ev e k) fun k=>match mq kk z ok H m k with
  |some v=>K v H
  |none=>False
 |.clr k z x=>force (ev e x) fun x=>match IV k z H x with
  |some H'=>K (.tup []) H'
  |none=>False
 |.ug kk m k v=>force (ev e m) fun m=>force (ev e k) fun k=>force (ev e v) fun v=>match yO kk H m k v with
  |some H'=>K .undef H'
  |none=>False
 |q=>aF L q e H K KP
theorem jy {q:AOp} {e:Env} {H:Heap} {K KP:au→Heap→Prop} (h:iC L q e H K KP):aF L q e H K KP:=by
 cases q<;>first|exact h|skip
 case build z parts=>
  simp only[iC,oI,List.map_map,Function.comp_def]at h;simp only[aF];exact⟨FK e _ parts h.1,by rw[←Jc];exact h.2⟩
 case lit k _ _ _ parts=>
  simp only[iC,oI,List.map_map,Function.comp_def]at h;simp only[aF];exact⟨fun p hp=>h.1 _ (List.mem_map.2 ⟨p,hp,rfl⟩),h.2⟩
 case mkI t x=>simp only[iC,force_eq]at h;exact h
 case mkF f fi ca=>simp only[iC,oI]at h;exact h
 case append k bytes t s x=>simp only[iC,force_eq]at h;exact h
 case jY bytes t s x=>simp only[iC,force_eq]at h;exact h
 case load k a=>simp only[iC,force_eq]at h;exact h
 case store k a x=>simp only[iC,force_eq]at h;exact h
 case call f args=>simp only[iC,oI]at h;exact h
 case box t x=>simp only[iC,force_eq]at h;exact h
 case look kk z ok m k=>simp only[iC,force_eq]at h;exact h
 case ug kk m k v=>simp only[iC,force_eq]at h;exact h
 case clr k z x=>simp only[iC,force_eq]at h;exact h
def uM (L:Lnk):List AO→Env→Heap→(Env→Heap→Prop)→(au→Heap→Prop)→Prop
 |[],e,H,K,_=>K e H
 |o::os,e,H,K,KP=>match o.guard with
  |none=>iC L o.op e H (fun v H'=>force v fun v=>uM L os (bg e o.dst v) H' K KP) KP
  |some (t,want)=>match e t with
   |.bool b=>match want,b with
    |true,true=>iC L o.op e H (fun v H'=>force v fun v=>uM L os (bg e o.dst v) H' K KP) KP
    |false,false=>iC L o.op e H (fun v H'=>force v fun v=>uM L os (bg e o.dst v) H' K KP) KP
    |true,false=>uM L os (bg e o.dst (.tup [])) H K KP
    |false,true=>uM L os (bg e o.dst (.tup [])) H K KP
   |.tup []=>uM L os (bg e o.dst (.tup [])) H K KP
   |_=>False
theorem nW {K:Env→Heap→Prop} {KP:au→Heap→Prop}:∀(l:List AO) (e:Env) (H:Heap),uM L l e H K KP→nu L l e H K KP
 |[],e,H,h=>h
 |o::os,e,H,h=>by
  have go:iC L o.op e H (fun v H'=>force v fun v=>uM L os (bg e o.dst v) H' K KP) KP→aF L o.op e H (fun v H'=>nu L os (bg e o.dst v) H' K KP) KP:=fun h=>
   eG (fun v H' h=>by rw[force_eq]at h;exact nW os _ _ h) (fun _ _ h=>h) (jy h)
  simp only[uM]at h;simp only[nu]
  cases hg:o.guard with
  |none=>simp only[hg]at h⊢;exact go h
  |some p=>
   obtain⟨t,want⟩:=p;simp only[hg]at h⊢;cases he:e t<;>simp only[he]at h⊢
   ·rename_i b
    cases want<;>cases b<;>first|exact go h|exact nW os _ _ h
   ·rename_i vs
    cases vs with
    |nil=>exact nW os _ _ h
    |cons=>exact False.elim h
def A8 (L:Lnk) (q:AOp) (e:Env) (H0 H:Heap) (K:au→Heap→Prop):Prop:=
 match q with
 |.alloc z t=>K (.ptr H.length 0) (H ++[.cells z t])
 |.box t x=>force (ev e x) fun v=>v.cells.all uJ=true∧K (.ptr H.length 0) (H ++[.cells v.cells t])
 |.load k a=>force (ev e a) fun a=>qU H0.length a=true∧match loadAt H0 k a with
  |some v=>K v H
  |none=>False
 |.call f args=>evs e args fun abJ=>∃v,(∀H',agree H0.length H0 H'→aC L f abJ H' fun r H''=>r=.ret v∧H''=H')∧K v H
 |.fJ f args=>eP L (.fJ f args) e H0 H K
 |.store _ _ _|.append _ _ _ _ _|.jY _ _ _ _|.GR _ _ _|.panic _|.pE _|.make _ _ _|.mkMap|.look _ _ _ _ _|.ug _ _ _ _|.uo _|.rO _|.vC _|.oG _|.clr _ _ _|.Ik _ _ _=>False
 |q=>iC L q e H K fun _ _=>False
theorem Ju {q:AOp} {e:Env} {H0 H:Heap} {K:au→Heap→Prop} (h:A8 L q e H0 H K):eP L q e H0 H K:=by
 cases q<;>first|exact h|exact jy h|skip
 case box t x=>simp only[A8,force_eq]at h;exact h
 case load k a=>simp only[A8,force_eq]at h;exact h
 case call f args=>simp only[A8,oI]at h;exact h
 case build z ps=>exact jy (show iC L (.build z ps) e H K fun _ _=>False from h)
 case lit k b z m ps=>exact jy (show iC L (.lit k b z m ps) e H K fun _ _=>False from h)
 case mkI t x=>exact jy (show iC L (.mkI t x) e H K fun _ _=>False from h)
 case mkF f a c=>exact jy (show iC L (.mkF f a c) e H K fun _ _=>False from h)
def pW (L:Lnk) (H0:Heap):List AO→Env→Heap→(Env→Heap→Prop)→Prop
 |[],e,H,K=>K e H
 |o::os,e,H,K=>match o.guard with
  |none=>A8 L o.op e H0 H (fun v H'=>force v fun v=>pW L H0 os (bg e o.dst v) H' K)
  |some (t,want)=>match e t with
   |.bool b=>match want,b with
    |true,true=>A8 L o.op e H0 H (fun v H'=>force v fun v=>pW L H0 os (bg e o.dst v) H' K)
    |false,false=>A8 L o.op e H0 H (fun v H'=>force v fun v=>pW L H0 os (bg e o.dst v) H' K)
    |true,false=>pW L H0 os (bg e o.dst (.tup [])) H K
    |false,true=>pW L H0 os (bg e o.dst (.tup [])) H K
   |.tup []=>pW L H0 os (bg e o.dst (.tup [])) H K
   |_=>False
theorem mM {H0:Heap} {K:Env→Heap→Prop}:∀(l:List AO) (e:Env) (H:Heap),pW L H0 l e H K→iA L H0 l e H K
 |[],e,H,h=>h
 |o::os,e,H,h=>by
  have go:A8 L o.op e H0 H (fun v H'=>force v fun v=>pW L H0 os (bg e o.dst v) H' K)→eP L o.op e H0 H (fun v H'=>iA L H0 os (bg e o.dst v) H' K):=fun h=>
   iX (fun v H' h=>by rw[force_eq]at h;exact mM os _ _ h) (Ju h)
  simp only[pW]at h;simp only[iA]
  cases hg:o.guard with
  |none=>simp only[hg]at h⊢;exact go h
  |some p=>
   obtain⟨t,want⟩:=p;simp only[hg]at h⊢;cases he:e t<;>simp only[he]at h⊢
   ·rename_i b
    cases want<;>cases b<;>first|exact go h|exact mM os _ _ h
   ·rename_i vs
    cases vs with
    |nil=>exact mM os _ _ h
    |cons=>exact False.elim h
def Cv (L:Lnk) (e0:Env) (H0:Heap):LT→Env→Heap→(Env→Heap→Prop)→(au→Heap→Prop)→Prop
 |.done,e,H,K,_=>K e H
 |.stop,_,_,_,_=>True
 |.bad,_,_,_,_=>False
 |.alt o ks t more,e,H,K,KP=>Bn more (match o.guard with
  |none=>iC L o.op e H (fun v H'=>force v fun v=>jU ks e0 H0 H' (Cv L e0 H0 t (bg e o.dst v) H' K KP)) KP
  |some (s,want)=>match e s with
   |.bool b=>match want,b with
    |true,true=>iC L o.op e H (fun v H'=>force v fun v=>jU ks e0 H0 H' (Cv L e0 H0 t (bg e o.dst v) H' K KP)) KP
    |false,false=>iC L o.op e H (fun v H'=>force v fun v=>jU ks e0 H0 H' (Cv L e0 H0 t (bg e o.dst v) H' K KP)) KP
    |true,false=>Cv L e0 H0 t (bg e o.dst (.tup [])) H K KP
    |false,true=>Cv L e0 H0 t (bg e o.dst (.tup [])) H K KP
   |.tup []=>Cv L e0 H0 t (bg e o.dst (.tup [])) H K KP
   |_=>False) (Cv L e0 H0 more e H K KP)
theorem LY {e0:Env} {H0:Heap} {K:Env→Heap→Prop} {KP:au→Heap→Prop}:∀(t:LT) (e:Env) (H:Heap),Cv L e0 H0 t e H K KP→xlt L e0 H0 t e H K KP:=by
 intro t
 induction t with
 |done=>exact fun e H h=>h
 |stop=>exact fun e H h=>h
 |bad=>exact fun e H h=>h
 |alt o ks t more iht ihm=>
  intro e H h
  have go:iC L o.op e H (fun v H'=>force v fun v=>jU ks e0 H0 H' (Cv L e0 H0 t (bg e o.dst v) H' K KP)) KP→aF L o.op e H (fun v H'=>jU ks e0 H0 H' (xlt L e0 H0 t (bg e o.dst v) H' K KP)) KP:=fun h=>
   eG (fun v H' h=>by rw[force_eq]at h;exact ny (iht _ _) h) (fun _ _ h=>h) (jy h)
  simp only[Cv]at h;simp only[xlt]
  refine sD ?_ (by
   by_cases hm:more=.stop
   ·exact uN hm
   ·exact ihm _ _ (yV (fun h=>absurd h hm) h))
  replace h:=qZ h
  cases hg:o.guard with
  |none=>simp only[hg]at h⊢;exact go h
  |some p=>
   obtain⟨s,want⟩:=p;simp only[hg]at h⊢;cases he:e s<;>simp only[he]at h⊢
   ·rename_i b
    cases want<;>cases b<;>first|exact go h|exact iht _ _ h
   ·rename_i vs
    cases vs with
    |nil=>exact iht _ _ h
    |cons=>exact False.elim h
def lV (L : Lnk) : AC → Env → Heap → ng → Prop
 | .skip, e, H, Q => Q .normal e H
 | .ops l, e, H, Q => uM L l e H (fun e' H' => Q .normal e' H') (fun v H' => Q (.pan v) e H')
 | .draw soft hard, e, H, Q => pW L H soft e H (fun e' H' => uM L hard e' H' (fun e'' H'' => Q .normal e'' H'') (fun v H'' => Q (.pan v) e' H''))
 | .iy soft t, e, H, Q => pW L H soft e H (fun e' H' => Cv L e' H t e' H' (fun e'' H'' => Q .normal e'' H'') (fun v H'' => Q (.pan v) e' H''))
 | .seq a b, e, H, Q => lV L a e H (tN (fun e' H' => lV L b e' H' Q) Q)
 | .cond c a b, e, H, Q => match ev e c with
  | .bool t => match t with
   | true => lV L a e H Q
   | false => lV L b e H Q
  | _ => False
 | .block id c, e, H, Q => lV L c e H (Vo id Q)
 | .loop c, e, H, Q => ∀ I : Env → Heap → Prop, (∀ e H, lV L c e H (tN I Q) → I e H) → GC L H.length I → I e H
 | .exit id, e, H, Q => Q (.exit id) e H
 | .ret, e, H, Q => Q .ret e H
 | .bad, _, _, _ => False
 | .tO f ps asg body, e, H, Q => match ev e f with
  | .fn (.func g) fi ca => ∀ r : rQ, r.e = e →
    (∀ (args : List au) (H1 : Heap) (R : fE → Heap → Prop), args.length = ps.length → H1[H.length]? = some (.loop r .ready) →
     lV L asg (Bb e ps args) H1 (uX H.length r fun e2 H2 => lV L body e2 H2 (Hr H.length r R)) → iZ L H.length args H1 R) →
    aC L g (fi ++ [.yld H.length] ++ ca) (H ++ [.loop r .ready]) (Kg H.length r Q e)
  | _ => False
theorem Bc {l:Nat} {r:rQ} {B B':Env→Heap→Prop} (h:∀e H,B e H→B' e H) {x:BJ} {e:Env} {H:Heap} (hx:uX l r B x e H):uX l r B' x e H:=by
 cases x with
 |normal=>
  simp only[uX]at hx⊢;split at hx
  ·exact⟨hx.1,h _ _ hx.2⟩
  ·exact hx.elim
 |_=>exact hx
theorem GK :∀(c:AC) (e:Env) (H:Heap) (Q:ng),lV L c e H Q→dI L c e H Q:=by
 intro c
 induction c with
 |skip=>exact fun e H Q h=>h
 |ops l=>exact fun e H Q h=>nW l e H h
 |draw soft hard=>exact fun e H Q h=>gP (fun _ _ h=>nW hard _ _ h) (mM soft e H h)
 |iy soft t=>exact fun e H Q h=>gP (fun _ _ h=>LY t _ _ h) (mM soft e H h)
 |seq a b iha ihb=>
  intro e H Q h;have h':lV L a e H (tN (fun e' H'=>lV L b e' H' Q) Q):=h;show dI L a e H (tN (fun e' H'=>dI L b e' H' Q) Q);refine lT (Q:=tN (fun e' H'=>lV L b e' H' Q) Q) (fun x e H h=>?_) (iha _ _ _ h')
  cases x with
  |normal=>exact ihb _ _ _ h
  |_=>exact h
 |cond c a b iha ihb=>
  intro e H Q h;simp only[lV]at h;simp only[dI];cases hc:ev e c<;>simp only[hc]at h⊢;rename_i t;cases t
  ·exact ihb _ _ _ h
  ·exact iha _ _ _ h
 |block id c ih=>exact fun e H Q h=>ih e H _ h
 |loop c ih=>
  intro e H Q h I hI hG;exact h I (fun e H hc=>hI e H (ih _ _ _ hc)) hG
 |exit id=>exact fun e H Q h=>h
 |ret=>exact fun e H Q h=>h
 |bad=>exact fun e H Q h=>h
 |tO f ps asg body iha ihb=>
  intro e H Q h;simp only[lV]at h;simp only[dI];cases hf:ev e f<;>simp only[hf]at h⊢;rename_i af fi ca;cases af<;>try exact h.elim
  exact fun r hr hy=>h r hr fun args H1 R h1 h2 h3=>hy args H1 R h1 h2 (lT (fun x e H hx=>Bc (fun e H h=>ihb _ _ _ h) hx) (iha _ _ _ h3))
def YP (L:Lnk) (af:aM) (args:List au) (H:Heap) (Q:fE→Heap→Prop):Prop:=
 lV L af.body (fun i=>args.getD i .undef) H (TK af.results Q)
theorem Cn {T:Tab} {f:Nat} {af:aM} (hf:T.has f af) {args:List au} {H:Heap} {Q:fE→Heap→Prop} (hlen:args.length≤af.ntmps) (h:YP T.L af args H Q):aC T.L f args H Q:=
 Az hf hlen (GK _ _ _ _ h)
end Go.Ag
/- Small lemmas for running abstract code. -/
namespace Go.Ag
open Go
theorem SQ {H:Heap} {id t k:Nat} {cs:List au} (h:H[id]?=some (.cells cs t)) (hk:cs.length=k):loadAt H (some k) (.ptr id 0)=some (.agg cs):=by
 simp only[loadAt,fI,h];rw[if_pos (by omega),List.drop_zero,←hk,List.take_length];rfl
theorem nD {H:Heap} {k:Option Nat} {a v:au} {P:au→Prop} (h:loadAt H k a=some v) (hp:P v):(match loadAt H k a with
  |some v=>P v
  |none=>False):=by rw[h];exact hp
theorem iO {o:Option au} {v:au} {P:au→Prop} (h:o=some v) (hp:P v):(match(generalizing:=false) o with
  |some v=>P v
  |none=>False):=by rw[h];exact hp
theorem rG {a b:List UInt8} (h:a.length+b.length≤2^60):Ec .add (.str a) (.str b)=some (.str (a ++b)):=by
 show(if a.length+b.length≤Ic then _ else _)=_;rw[if_pos (by simp only[Ic];omega)]
theorem add1 {k:Nat} (h:k+1<9223372036854775808):au.int .i64 (IntKind.i64.wrap ((k:Int)+1))=.int .i64 ((k+1:Nat):Int):=by
 have:IntKind.i64.wrap ((k:Int)+1)=(k:Int)+1:=by
  exact IntWalk.i64_in _ (by omega)
 rw[this];rfl
theorem oC (c d:UInt8):((c.toNat:Int)==(d.toNat:Int))=(c==d):=by
 rw[Bool.eq_iff_iff];simp only[beq_iff_eq,Int.ofNat_inj];exact UInt8.toNat_inj
theorem Vr {k bytes t:Nat} {xs:List au} {tk tk0:Tok} {H:Heap} {K:au→Heap→Prop} (hx:dB k xs) (hb:xs.length*bytes≤2^46) (hl:xs.length≤2^46)
  (h:K (.lst xs tk) H):lH k bytes t (.lst xs tk) (.lst [] tk0) H K:=by
 unfold lH;refine⟨hx,fun x hx=>(by cases hx),by simpa using hb,by simpa using hl,?_⟩;rw[if_pos rfl];exact h
theorem VW (l:List (Nat×au)) (i:Nat):gB (fun _=>.undef) l i=.undef∨∃p∈l,p.1=i∧gB (fun _=>.undef) l i=p.2:=by
 induction l with
 |nil=>exact .inl rfl
 |cons p l ih=>
  obtain⟨j,v⟩:=p;simp only[gB,upd]
  by_cases hj:i=j
  ·rw[if_pos hj];exact .inr ⟨(j,v),by simp,hj.symm,rfl⟩
  ·rw[if_neg hj]
   rcases ih with h|⟨p,hp,h1,h2⟩
   ·exact .inl h
   ·exact .inr ⟨p,by simp[hp],h1,h2⟩
theorem GC.next {L:Lnk} {n0:Nat} {I:Env→Heap→Prop} (hG:GC L n0 I) (l:List (Nat×au)) (H K J:Heap) {e':Env} {H':Heap} (hH:H'=K ++J) (hn:n0≤H.length) (hK:K.length=H.length)
  (hl:∀p∈l,Weak L (e' p.1) p.2∧Low H.length p.2) (hw:∀(i:Nat) (o o':aU),K[i]?=some o→H[i]?=some o'→bJ L o o') (hlo:∀o∈H,bI H.length o)
  (hI:I (gB (fun _=>.undef) l) H):I e' H':=by
 subst hH;refine hG _ e' H K J (fun i=>?_) hK hw hlo hn hI;rcases VW l i with h|⟨p,hp,h1,h2⟩
 ·rw[h];exact⟨fun g v _=>.undef v,.undef⟩
 ·rw[h2,←h1];exact hl p hp
end Go.Ag
/- A contract told at a small heap holds beside other objects, and under other names of places. -/
namespace Go.Ag
open Go
open Go.RowKit (Below)
variable {L : Lnk}
def Ht (ρ:Nat→Nat):Tok→Tok
 |.tail id=>.tail (ρ id)
 |.nil=>.nil
 |.full=>.full
 |.none=>.none
mutual
def ren (ρ:Nat→Nat):au→au
 |.undef=>.undef
 |.bool b=>.bool b
 |.int k n=>.int k n
 |.str s=>.str s
 |.ptr id off=>.ptr (ρ id) off
 |.eD=>.eD
 |.lZ cs=>.lZ (iD ρ cs)
 |.lst xs tk=>.lst (iD ρ xs) (Ht ρ tk)
 |.arr id v o n=>.arr (ρ id) v o n
 |.map id=>.map (ρ id)
 |.gW=>.gW
 |.fn f a c=>.fn f (iD ρ a) (iD ρ c)
 |.lM=>.lM
 |.iface t x=>.iface t (ren ρ x)
 |.eT=>.eT
 |.agg cs=>.agg (iD ρ cs)
 |.tup vs=>.tup (iD ρ vs)
 |.qN xs tk=>.qN (iD ρ xs) (Ht ρ tk)
 |.yld id=>.yld (ρ id)
 |.vec id v k o n=>.vec (ρ id) v k o n
 |.jv id v o=>.jv (ρ id) v o
def iD (ρ:Nat→Nat):List au→List au
 |[]=>[]
 |x::xs=>ren ρ x::iD ρ xs
end
theorem fG (ρ:Nat→Nat) (xs:List au):iD ρ xs=xs.map (ren ρ):=by
 induction xs with
 |nil=>simp[iD]
 |cons x xs ih=>simp[iD,ih]
theorem kH (ρ:Nat→Nat) (xs:List au):(iD ρ xs).length=xs.length:=by rw[fG];simp
theorem Fw (ρ:Nat→Nat) (x:au):(ren ρ x).cells=iD ρ x.cells:=by
 cases x<;>simp[ren,au.cells,iD]
theorem pK (ρ:Nat→Nat) (xs:List au):flat (iD ρ xs)=iD ρ (flat xs):=by
 induction xs with
 |nil=>simp[iD,flat]
 |cons x xs ih=>
  rw[fG]at ih⊢;rw[fG]at ih⊢;simp only[flat,List.map_cons,List.flatMap_cons,List.map_append]at ih⊢;rw[ih,Fw,fG]
theorem mU (ρ:Nat→Nat) (x:au):(ren ρ x).cells.length=x.cells.length:=by rw[Fw,kH]
theorem iR {ρ:Nat→Nat} {n:Nat} (hρ:∀i,i<n→ρ i=i) {x:au} (h:Low n x):ren ρ x=x:=by
 have tk:∀t,nC n t→Ht ρ t=t:=fun t ht=>by
  cases t<;>first|rfl|(simp only[Ht];rw[hρ _ ht])
 have ls:∀xs:List au,(∀x∈xs,ren ρ x=x)→iD ρ xs=xs:=fun xs hx=>by
  rw[fG];exact(List.map_congr_left (g:=id) hx).trans (List.map_id xs)
 induction h with
 |undef=>simp[ren]
 |bool=>simp[ren]
 |int=>simp[ren]
 |str=>simp[ren]
 |ptr _ _ h=>simp[ren,hρ _ h]
 |eD=>simp[ren]
 |lZ cs _ ih=>simp only[ren];rw[ls _ ih]
 |lst xs t ht _ ih=>simp only[ren];rw[ls _ ih,tk _ ht]
 |arr _ _ _ _ h=>simp[ren,hρ _ h]
 |map _ h=>simp[ren,hρ _ h]
 |gW=>simp[ren]
 |fn _ _ _ _ _ i1 i2=>simp only[ren];rw[ls _ i1,ls _ i2]
 |lM=>simp[ren]
 |iface _ _ _ ih=>simp only[ren];rw[ih]
 |eT=>simp[ren]
 |agg _ _ ih=>simp only[ren];rw[ls _ ih]
 |tup _ _ ih=>simp only[ren];rw[ls _ ih]
 |qN xs t ht _ ih=>simp only[ren];rw[ls _ ih,tk _ ht]
 |yld _ h=>simp[ren,hρ _ h]
 |vec _ _ _ _ _ h=>simp[ren,hρ _ h]
 |jv _ _ _ h=>simp[ren,hρ _ h]
def gV (ρ:Nat→Nat):aU→aU
 |.dead=>.dead
 |.gone=>.gone
 |.cells cs t=>.cells (iD ρ cs) t
 |.tail n t=>.tail n t
 |.arr v xs t=>.arr v (iD ρ xs) t
 |.map es c=>.map (es.map fun e=>(ren ρ e.1,ren ρ e.2.1,e.2.2)) c
 |.iJ m since seen last=>.iJ (m.map ρ) since seen last
 |.loop r st=>.loop {r with e:=fun i=>ren ρ (r.e i)} st
theorem ql (ρ:Nat→Nat) (o:aU):(gV ρ o).ver=o.ver:=by cases o<;>rfl
theorem kG (ρ:Nat→Nat) (o:aU):(gV ρ o).alive=o.alive:=by cases o<;>rfl
def zT (ρ:Nat→Nat):fE→fE
 |.ret v=>.ret (ren ρ v)
 |.pan v=>.pan (ren ρ v)
theorem oz.ren {g g':aA} {ρ:Nat→Nat} (h:∀i v s,g.ob i v=some s→g'.ob (ρ i) v=some s) {a:Option Addr} {n c k:Nat} {tk:Tok} (ht:oz g a n c k tk):oz g' a n c k (Ht ρ tk):=by
 cases tk with
 |tail id=>obtain⟨s,h1,h2⟩:=ht;exact⟨s,h _ _ _ h1,h2⟩
 |_=>exact ht
theorem oz.qP {g g':aA} {ρ:Nat→Nat} (h:∀i v s,g.ob (ρ i) v=some s→g'.ob i v=some s) {a:Option Addr} {n c k:Nat} {tk:Tok} (ht:oz g a n c k (Ht ρ tk)):oz g' a n c k tk:=by
 cases tk with
 |tail id=>obtain⟨s,h1,h2⟩:=ht;exact⟨s,h _ _ _ h1,h2⟩
 |_=>exact ht
theorem Rep.ren {g g' : aA} {ρ : Nat → Nat} (hf : ∀ b o v, g.fz b o = some v → g'.fz b o = some v) (ho : ∀ i v s, g.ob i v = some s → g'.ob (ρ i) v = some s) {v : Value} {x : au} (h : Rep L g v x) : Rep L g' v (ren ρ x) :=
 have kk : ∀ (xs : List au) (k : Nat), (∀ x ∈ xs, x.cells.length = k) → ∀ x ∈ iD ρ xs, x.cells.length = k := fun xs k hk x hx => by
  rw [fG] at hx
  obtain ⟨y, hy, rfl⟩ := List.mem_map.1 hx
  rw [mU]; exact hk y hy
 Rep.rec (motive_1 := fun v x _ => Rep L g' v (Go.Ag.ren ρ x)) (motive_2 := fun vs xs _ => aX L g' vs (iD ρ xs))
  (fun v => by simp only [Go.Ag.ren]; exact .undef v) (fun b => by simp only [Go.Ag.ren]; exact .bool b) (fun k n => by simp only [Go.Ag.ren]; exact .int k n) (fun s => by simp only [Go.Ag.ren]; exact .str s)
  (fun id off s h h0 => by simp only [Go.Ag.ren]; exact .ptr _ off s (ho _ _ _ h) h0) (by simp only [Go.Ag.ren]; exact .eD)
  (fun b o vs cs hf' _ hr => by simp only [Go.Ag.ren]; exact .lZ b o vs _ (fun j v hj => hf _ _ _ (hf' j v hj)) hr)
  (fun a c k b o xs vs tk ha hf' hk hc ht _ hr => by
   simp only [Go.Ag.ren]
   have := Rep.lst (L := L) (g := g') a c k b o (iD ρ xs) vs (Ht ρ tk) (fun e => ha (fun e0 => e (by subst e0; simp [iD]))) (fun j v hj => hf _ _ _ (hf' j v hj)) (kk xs k hk) (by rw [kH]; exact hc) (by rw [kH]; exact ht.ren ho) (by rw [pK]; exact hr)
   rwa [kH] at this)
  (fun id ver off len c s h h0 hc => by simp only [Go.Ag.ren]; exact .arr _ ver off len c s (ho _ _ _ h) h0 hc) (fun id s h => by simp only [Go.Ag.ren]; exact .map _ s (ho _ _ _ h)) (by simp only [Go.Ag.ren]; exact .gW)
  (fun f af fi ca afi aca h _ _ h1 h2 => by simp only [Go.Ag.ren]; exact .fn f af fi ca _ _ h h1 h2) (by simp only [Go.Ag.ren]; exact .lM) (fun t v x _ h => by simp only [Go.Ag.ren]; exact .iface t v _ h) (by simp only [Go.Ag.ren]; exact .eT)
  (fun vs cs _ h => by simp only [Go.Ag.ren]; exact .agg vs _ h) (fun vs cs _ h => by simp only [Go.Ag.ren]; exact .tup vs _ h)
  (fun a c k b o xs vs tk ha hf' hk hc ht _ hr => by
   simp only [Go.Ag.ren]
   exact Rep.qN (L := L) (g := g') a c k b o (iD ρ xs) vs (Ht ρ tk) (fun e => ha (fun e0 => e (by subst e0; simp [iD]))) (fun j v hj => hf _ _ _ (hf' j v hj)) (kk xs k hk) (by rw [kH]; exact hc) (by rw [kH]; exact ht.ren ho) (by rw [pK]; exact hr))
  (fun id s h => by simp only [Go.Ag.ren]; exact .yld _ s (ho _ _ _ h)) (fun id ver k off len c s h hk hc hz => by simp only [Go.Ag.ren]; exact .vec _ ver k off len c s (ho _ _ _ h) hk hc hz) (fun id ver off s h => by simp only [Go.Ag.ren]; exact .jv _ ver off s (ho _ _ _ h))
  (by simp only [iD]; exact .nil) (fun v x vs xs _ _ h hs => by simp only [iD]; exact .cons v _ vs _ h hs) h
theorem aX.ren {g g':aA} {ρ:Nat→Nat} (hf:∀b o v,g.fz b o=some v→g'.fz b o=some v) (ho:∀i v s,g.ob i v=some s→g'.ob (ρ i) v=some s) {vs:List Value} {xs:List au} (h:aX L g vs xs):aX L g' vs (iD ρ xs):=by
 induction vs generalizing xs with
 |nil=>cases h;simp only[iD];exact .nil
 |cons v vs ih=>cases h with|cons _ x _ xs h hs=>simp only[iD];exact .cons _ _ _ _ (h.ren hf ho) (ih hs)
theorem Bg {ρ:Nat→Nat} {xs:List au} (h:[]=iD ρ xs):xs=[]:=by
 cases xs with
 |nil=>rfl
 |cons=>simp[iD]at h
theorem Rep.qP {g g' : aA} {ρ : Nat → Nat} (hf : ∀ b o v, g.fz b o = some v → g'.fz b o = some v) (ho : ∀ i v s, g.ob (ρ i) v = some s → g'.ob i v = some s) {v : Value} {y : au} (h : Rep L g v y) : ∀ x, y = Go.Ag.ren ρ x → Rep L g' v x :=
 have kk : ∀ (xs : List au) (k : Nat), (∀ x ∈ iD ρ xs, x.cells.length = k) → ∀ x ∈ xs, x.cells.length = k := fun xs k hk x hx => by
  rw [← mU ρ]
  exact hk _ (by rw [fG]; exact List.mem_map.2 ⟨x, hx, rfl⟩)
 Rep.rec (motive_1 := fun v y _ => ∀ x, y = Go.Ag.ren ρ x → Rep L g' v x) (motive_2 := fun vs ys _ => ∀ xs, ys = iD ρ xs → aX L g' vs xs)
  (fun v x e => by cases x <;> simp only [Go.Ag.ren, reduceCtorEq] at e; exact .undef v)
  (fun b x e => by cases x <;> simp only [Go.Ag.ren, reduceCtorEq] at e; cases e; exact .bool b)
  (fun k n x e => by cases x <;> simp only [Go.Ag.ren, reduceCtorEq] at e; cases e; exact .int k n)
  (fun s x e => by cases x <;> simp only [Go.Ag.ren, reduceCtorEq] at e; cases e; exact .str s)
  (fun id off s h h0 x e => by cases x <;> simp only [Go.Ag.ren, reduceCtorEq] at e; cases e; exact .ptr _ off s (ho _ _ _ h) h0)
  (fun x e => by cases x <;> simp only [Go.Ag.ren, reduceCtorEq] at e; exact .eD)
  (fun b o vs cs hf' _ hr x e => by cases x <;> simp only [Go.Ag.ren, reduceCtorEq] at e; cases e; exact .lZ b o vs _ (fun j v hj => hf _ _ _ (hf' j v hj)) (hr _ rfl))
  (fun a c k b o xs vs tk ha hf' hk hc ht _ hr x e => by
   cases x <;> simp only [Go.Ag.ren, reduceCtorEq] at e
   case lst ys tk' =>
   cases e
   rw [kH] at hc ht ⊢
   exact .lst a c k b o ys vs tk' (fun e => ha (fun e0 => e (Bg e0.symm))) (fun j v hj => hf _ _ _ (hf' j v hj)) (kk ys k hk) hc (ht.qP ho) (hr _ (pK ρ ys)))
  (fun id ver off len c s h h0 hc x e => by cases x <;> simp only [Go.Ag.ren, reduceCtorEq] at e; cases e; exact .arr _ ver off len c s (ho _ _ _ h) h0 hc)
  (fun id s h x e => by cases x <;> simp only [Go.Ag.ren, reduceCtorEq] at e; cases e; exact .map _ s (ho _ _ _ h))
  (fun x e => by cases x <;> simp only [Go.Ag.ren, reduceCtorEq] at e; exact .gW)
  (fun f af fi ca afi aca h _ _ h1 h2 x e => by cases x <;> simp only [Go.Ag.ren, reduceCtorEq] at e; cases e; exact .fn f af fi ca _ _ h (h1 _ rfl) (h2 _ rfl))
  (fun x e => by cases x <;> simp only [Go.Ag.ren, reduceCtorEq] at e; exact .lM)
  (fun t v y _ h x e => by cases x <;> simp only [Go.Ag.ren, reduceCtorEq] at e; cases e; exact .iface t v _ (h _ rfl))
  (fun x e => by cases x <;> simp only [Go.Ag.ren, reduceCtorEq] at e; exact .eT)
  (fun vs cs _ h x e => by cases x <;> simp only [Go.Ag.ren, reduceCtorEq] at e; cases e; exact .agg vs _ (h _ rfl))
  (fun vs cs _ h x e => by cases x <;> simp only [Go.Ag.ren, reduceCtorEq] at e; cases e; exact .tup vs _ (h _ rfl))
  (fun a c k b o xs vs tk ha hf' hk hc ht _ hr x e => by
   cases x <;> simp only [Go.Ag.ren, reduceCtorEq] at e
   case qN ys tk' =>
   cases e
   rw [kH] at hc ht
   exact .qN a c k b o ys vs tk' (fun e => ha (fun e0 => e (Bg e0.symm))) (fun j v hj => hf _ _ _ (hf' j v hj)) (kk ys k hk) hc (ht.qP ho) (hr _ (pK ρ ys)))
  (fun id s h x e => by cases x <;> simp only [Go.Ag.ren, reduceCtorEq] at e; cases e; exact .yld _ s (ho _ _ _ h))
  (fun id ver k off len c s h hk hc hz x e => by cases x <;> simp only [Go.Ag.ren, reduceCtorEq] at e; cases e; exact .vec _ ver k off len c s (ho _ _ _ h) hk hc hz)
  (fun id ver off s h x e => by cases x <;> simp only [Go.Ag.ren, reduceCtorEq] at e; cases e; exact .jv _ ver off s (ho _ _ _ h))
  (fun xs e => by cases xs <;> simp only [iD, reduceCtorEq] at e; exact .nil)
  (fun v y vs ys _ _ h hs xs e => by cases xs <;> simp only [iD, reduceCtorEq] at e; cases e; exact .cons v _ vs _ (h _ rfl) (hs _ rfl)) h
theorem aX.qP {g g':aA} {ρ:Nat→Nat} (hf:∀b o v,g.fz b o=some v→g'.fz b o=some v) (ho:∀i v s,g.ob (ρ i) v=some s→g'.ob i v=some s) {vs:List Value} {xs:List au} (h:aX L g vs (iD ρ xs)):aX L g' vs xs:=by
 induction vs generalizing xs with
 |nil=>cases xs with
  |nil=>exact .nil
  |cons x xs=>simp only[iD]at h;cases h
 |cons v vs ih=>
  cases xs with
  |nil=>simp only[iD]at h;cases h
  |cons x xs=>
   simp only[iD]at h;cases h with|cons _ _ _ _ h hs=>exact .cons _ _ _ _ (h.qP hf ho x rfl) (ih hs)
def mG :Heap→List Nat→List aU→Heap
 |H,i::is,o::os=>mG (H.set i o) is os
 |H,_,_=>H
theorem Bh :∀(is:List Nat) (H:Heap) (os:List aU),(mG H is os).length=H.length
 |[],H,os=>by cases os<;>rfl
 |i::is,H,[]=>rfl
 |i::is,H,o::os=>by rw[mG,Bh is];simp
theorem HV :∀(is:List Nat) (H:Heap) (os:List aU) (j:Nat),j∉is→(mG H is os)[j]?=H[j]?
 |[],H,os,j,_=>by cases os<;>rfl
 |i::is,H,[],j,_=>rfl
 |i::is,H,o::os,j,h=>by
  simp only[List.mem_cons,not_or]at h;rw[mG,HV is _ os j h.2,List.getElem?_set_ne (Ne.symm h.1)]
theorem Ol :∀(is:List Nat) (H:Heap) (os:List aU),is.Nodup→is.length=os.length→(∀i∈is,i<H.length)→∀(k i:Nat),is[k]?=some i→(mG H is os)[i]?=os[k]?
 |[],H,os,_,_,_,k,i,h=>by simp at h
 |i0::is,H,[],_,h,_,k,i,_=>by simp at h
 |i0::is,H,o::os,hn,hl,hb,k,i,h=>by
  rw[mG];have hn:=List.nodup_cons.1 hn
  cases k with
  |zero=>
   simp at h;subst h;rw[HV is _ os _ hn.1];simp[hb i0 (by simp)]
  |succ k=>
   rw[Ol is _ os hn.2 (by simpa using hl) (fun j hj=>by simpa using hb j (by simp[hj])) k i (by simpa using h)];simp
def nameOf (is:List Nat) (n:Nat) (i:Nat):Nat:=match is[i]? with
 |some j=>j
 |none=>n+(i-is.length)
theorem lY {is:List Nat} {n i j:Nat} (h:is[i]?=some j):nameOf is n i=j:=by simp[nameOf,h]
theorem jI {is:List Nat} {n i:Nat} (h:is.length≤i):nameOf is n i=n+(i-is.length):=by simp[nameOf,List.getElem?_eq_none h]
def nU (g:aA) (H:Heap) (is:List Nat) (b:Nat):Prop:=∃i,i∈is∧∃o s,H[i]?=some o∧o.alive=true∧g.ob i o.ver=some s∧s.b=b
open Classical in
noncomputable def aA.small (g:aA) (w:World) (H:Heap) (is:List Nat):aA:=
 {g with
  ob:=fun i v=>match is[i]? with
   |some j=>g.ob j v
   |none=>none
  kp:=fun b=>if nU g H is b then none else w.heap[b]?
  dk:=fun _=>false}
theorem aA.qg {g:aA} {w:World} {H:Heap} {is:List Nat} {i j:Nat} (h:is[i]?=some j) (v:Nat):(g.small w H is).ob i v=g.ob j v:=by simp[aA.small,h]
theorem aA.Jw {g:aA} {w:World} {H:Heap} {is:List Nat} {b:Nat} (h:nU g H is b):(g.small w H is).kp b=none:=by simp[aA.small,h]
theorem aA.zR {g:aA} {w:World} {H:Heap} {is:List Nat} {b:Nat} (h:¬nU g H is b):(g.small w H is).kp b=w.heap[b]?:=by simp[aA.small,h]
theorem kN.qP {g g':aA} {w:World} {ρ:Nat→Nat} {k:Nat} {o:aU} (hf:g'.fz=g.fz) (ho:∀i v s,g.ob (ρ i) v=some s→g'.ob i v=some s) (hk:∀v,g'.ob k v=g.ob (ρ k) v)
  (hown:o.alive=true→∀s,g.ob (ρ k) o.ver=some s→g'.own s.b) (h:kN L g w (ρ k) (gV ρ o)):kN L g' w k o:=by
 have hf':∀b o v,g.fz b o=some v→g'.fz b o=some v:=fun b o v h=>by rw[hf];exact h
 cases o with
 |dead=>exact fun v=>(hk v).trans (h v)
 |gone=>trivial
 |cells cs t=>
  obtain⟨s,vs,h1,h2,h3,h4,h5,h6⟩:=h;exact⟨s,vs,(hk 0).trans h1,h2,h3,h4.qP hf' ho,fun o=>by rw[hf];exact h5 o,hown rfl s h1⟩
 |tail n t=>
  obtain⟨s,vs,h1,h0,h2,h3,h4,h5,h6⟩:=h;exact⟨s,vs,(hk n).trans h1,h0,fun m hm=>(hk m).trans (h2 m hm),h3,h4,fun o ho=>by rw[hf];exact h5 o ho,hown rfl s h1⟩
 |arr v xs t=>
  obtain⟨s,vs,h1,h0,h2,h3,h4,h5,h6,h7,h8,h9,h10⟩:=h;rw[kH]at h7 h8;refine⟨s,vs,(hk v).trans h1,h0,fun m hm=>(hk m).trans (h2 m hm),h3,h4,h5,fun x hx=>?_,h7,?_,fun o=>by rw[hf];exact h9 o,hown rfl s h1⟩
  ·rw[←mU ρ];exact h6 _ (by rw[fG];exact List.mem_map.2 ⟨x,hx,rfl⟩)
  ·rw[pK]at h8;exact h8.qP hf' ho
 |map es c=>
  obtain⟨s,ents,h1,h2,h3,h4,h5,h6,h7,h8⟩:=h;refine⟨s,ents,(hk 0).trans h1,h2,?_,?_,?_,hown rfl s h1,?_,?_⟩
  ·refine aX.qP hf' ho (ρ:=ρ) ?_
   rw[fG,List.map_map];rw[List.map_map]at h3;exact h3
  ·refine aX.qP hf' ho (ρ:=ρ) ?_
   rw[fG,List.map_map];rw[List.map_map]at h4;exact h4
  ·rw[List.map_map]at h5;exact h5
  ·exact fun e he=>h7 (ren ρ e.1,ren ρ e.2.1,e.2.2) (List.mem_map.2 ⟨e,he,rfl⟩)
  ·rw[List.map_map]at h8;exact h8
 |iJ m since seen last=>
  obtain⟨s,h1,h2,h3⟩:=h;refine⟨s,(hk 0).trans h1,hown rfl s h1,?_⟩
  cases m with
  |none=>exact h3
  |some mid=>obtain⟨sm,h3,h4⟩:=h3;exact⟨sm,ho _ _ _ h3,h4⟩
 |loop r st=>
  obtain⟨s,h1,h2,h3,h4⟩:=h;exact⟨s,(hk 0).trans h1,h2,fun i=>(h3 i).qP hf' ho (r.e i) rfl,hown rfl s h1⟩
theorem kN.ren {g g':aA} {w:World} {ρ:Nat→Nat} {k:Nat} {o:aU} (hf:g'.fz=g.fz) (ho:∀i v s,g.ob i v=some s→g'.ob (ρ i) v=some s) (hk:∀v,g'.ob (ρ k) v=g.ob k v)
  (hown:∀b,g.own b→g'.own b) (h:kN L g w k o):kN L g' w (ρ k) (gV ρ o):=by
 have hf':∀b o v,g.fz b o=some v→g'.fz b o=some v:=fun b o v h=>by rw[hf];exact h
 cases o with
 |dead=>exact fun v=>(hk v).trans (h v)
 |gone=>trivial
 |cells cs t=>
  obtain⟨s,vs,h1,h2,h3,h4,h5,h6⟩:=h;exact⟨s,vs,(hk 0).trans h1,h2,h3,h4.ren hf' ho,fun o=>by rw[hf];exact h5 o,hown _ h6⟩
 |tail n t=>
  obtain⟨s,vs,h1,h0,h2,h3,h4,h5,h6⟩:=h;exact⟨s,vs,(hk n).trans h1,h0,fun m hm=>(hk m).trans (h2 m hm),h3,h4,fun o ho=>by rw[hf];exact h5 o ho,hown _ h6⟩
 |arr v xs t=>
  obtain⟨s,vs,h1,h0,h2,h3,h4,h5,h6,h7,h8,h9,h10⟩:=h;refine⟨s,vs,(hk v).trans h1,h0,fun m hm=>(hk m).trans (h2 m hm),h3,h4,h5,fun x hx=>?_,by rw[kH];exact h7,?_,fun o=>by rw[hf];exact h9 o,hown _ h10⟩
  ·rw[fG]at hx
   obtain⟨y,hy,rfl⟩:=List.mem_map.1 hx;rw[mU];exact h6 y hy
  ·rw[pK,kH];exact h8.ren hf' ho
 |map es c=>
  obtain⟨s,ents,h1,h2,h3,h4,h5,h6,h7,h8⟩:=h;refine⟨s,ents,(hk 0).trans h1,h2,?_,?_,?_,hown _ h6,?_,?_⟩
  ·have:=aX.ren hf' ho h3
   rw[fG,List.map_map]at this;rw[List.map_map];exact this
  ·have:=aX.ren hf' ho h4
   rw[fG,List.map_map]at this;rw[List.map_map];exact this
  ·rw[List.map_map];exact h5
  ·intro e he
   obtain⟨e',he',rfl⟩:=List.mem_map.1 he;exact h7 e' he'
  ·rw[List.map_map];exact h8
 |iJ m since seen last=>
  obtain⟨s,h1,h2,h3⟩:=h;refine⟨s,(hk 0).trans h1,hown _ h2,?_⟩
  cases m with
  |none=>exact h3
  |some mid=>obtain⟨sm,h3,h4⟩:=h3;exact⟨sm,ho _ _ _ h3,h4⟩
 |loop r st=>
  obtain⟨s,h1,h2,h3,h4⟩:=h;exact⟨s,(hk 0).trans h1,h2,fun i=>(h3 i).ren hf' ho,hown _ h4⟩
def Part (H:Heap) (is:List Nat) (H0:Heap):Prop:=is.Nodup∧is.length=H0.length∧∀(k i:Nat) (o:aU),is[k]?=some i→H0[k]?=some o→H[i]?=some (gV (nameOf is H.length) o)
theorem wR {α:Type} {l:List α} {k:Nat} (h:k<l.length):∃x,l[k]?=some x:=⟨l[k],List.getElem?_eq_getElem h⟩
theorem Part.lt {H:Heap} {is:List Nat} {H0:Heap} (h:Part H is H0) {k i:Nat} (hi:is[k]?=some i):i<H.length:=by
 obtain⟨o,ho⟩:=wR (l:=H0) (k:=k) (by
  rw[←h.2.1];rcases Nat.lt_or_ge k is.length with h'|h'
  ·exact h'
  ·rw[List.getElem?_eq_none h']at hi;cases hi)
 have:=h.2.2 k i o hi ho;rcases Nat.lt_or_ge i H.length with h'|h'
 ·exact h'
 ·rw[List.getElem?_eq_none h']at this;cases this
theorem J9 {l:List Nat} (h:l.Nodup) {i j x:Nat} (hi:l[i]?=some x) (hj:l[j]?=some x):i=j:=by
 have h1:i<l.length:=by
  rcases Nat.lt_or_ge i l.length with h'|h'
  ·exact h'
  ·rw[List.getElem?_eq_none h']at hi;cases hi
 exact(List.getElem?_inj h1 h).1 (hi.trans hj.symm)
theorem yJ {g:aA} {w:World} {H H0:Heap} {is:List Nat} (h:St L g w H) (hp:Part H is H0):∀i v s,g.ob (nameOf is H.length i) v=some s→(g.small w H is).ob i v=some s:=fun i v s hs=>by
 cases hi:is[i]? with
 |some j=>rw[lY hi]at hs;rw[aA.qg hi];exact hs
 |none=>
  have:is.length≤i:=by
   rcases Nat.lt_or_ge i is.length with h'|h'
   ·obtain⟨x,hx⟩:=wR h';rw[hi]at hx;cases hx
   ·exact h'
  rw[jI this,h.new _ _ (by omega)]at hs;cases hs
theorem St.small {g:aA} {w:World} {H H0:Heap} {is:List Nat} (h:St L g w H) (hp:Part H is H0):St L (g.small w H is) w H0:=by
 have hidx:∀(k:Nat) (o:aU),H0[k]?=some o→∃i,is[k]?=some i:=fun k o ho=>wR (by
  rw[hp.2.1];rcases Nat.lt_or_ge k H0.length with h'|h'
  ·exact h'
  ·rw[List.getElem?_eq_none h']at ho;cases ho)
 have hown:∀(k i:Nat) (o:aU),is[k]?=some i→H0[k]?=some o→o.alive=true→∀s,g.ob i o.ver=some s→(g.small w H is).own s.b:=fun k i o hi ho ha s hs=>by
  have hH:=hp.2.2 k i o hi ho;obtain⟨s',e1,e2⟩:=(h.obj i _ hH).place (by rw[kG];exact ha);rw[ql,hs]at e1;cases e1;exact⟨e2.1,aA.Jw ⟨i,List.mem_of_getElem? hi,_,s,hH,by rw[kG];exact ha,by rw[ql];exact hs,rfl⟩⟩
 refine⟨h.fz,fun k o ho=>?_,fun k v hk=>?_,fun k v s hs=>?_,fun k k' o o' s s' hk hk' ha ha' e1 e2 hb=>?_,h.below,h.bs,h.fact,fun b o hb=>?_,fun b hb=>(by cases hb)⟩
 ·obtain⟨i,hi⟩:=hidx k o ho
  have hn:=lY (n:=H.length) hi;refine kN.qP (g:=g) (ρ:=nameOf is H.length) rfl (yJ h hp) (fun v=>by rw[hn,aA.qg hi]) (fun ha s hs=>?_) ?_
  ·rw[hn]at hs
   exact hown k i o hi ho ha s hs
  ·rw[hn];exact h.obj i _ (hp.2.2 k i o hi ho)
 ·simp only[aA.small]
  rw[List.getElem?_eq_none (by rw[hp.2.1];exact hk)]
 ·simp only[aA.small]at hs
  split at hs
  ·exact h.bnd _ _ _ hs
  ·cases hs
 ·obtain⟨i,hi⟩:=hidx k o hk
  obtain⟨i',hi'⟩:=hidx k' o' hk';rw[aA.qg hi]at e1;rw[aA.qg hi']at e2;have:=h.inj i i' _ _ s s' (hp.2.2 k i o hi hk) (hp.2.2 k' i' o' hi' hk') (by rw[kG];exact ha) (by rw[kG];exact ha') (by rw[ql];exact e1) (by rw[ql];exact e2) hb;subst this;exact J9 hp.1 hi hi'
 ·by_cases hsp:nU g H is b
  ·rw[aA.Jw hsp]at hb;cases hb
  ·rw[aA.zR hsp]at hb;exact hb
def aA.big (g g1:aA) (n:Nat) (is:List Nat):aA:=
 {g with
  fz:=g1.fz
  ob:=fun j v=>match is.findIdx? (· ==j)with
   |some k=>g1.ob k v
   |none=>if n≤j then g1.ob (is.length+(j-n)) v else g.ob j v}
theorem Yb {is:List Nat} (hn:is.Nodup) {k i:Nat} (h:is[k]?=some i):is.findIdx? (· ==i)=some k:=by
 rw[List.findIdx?_eq_some_iff_getElem]
 have hk:k<is.length:=by
  rcases Nat.lt_or_ge k is.length with h'|h'
  ·exact h'
  ·rw[List.getElem?_eq_none h']at h;cases h
 refine⟨hk,?_,fun j hj=>?_⟩
 ·rw[List.getElem?_eq_getElem hk]at h;simp[Option.some.inj h]
 ·simp only[beq_iff_eq]
  intro e;have hj':is[j]?=some i:=by rw[List.getElem?_eq_getElem (by omega)];rw[e]
  have:=J9 hn hj' h;omega
theorem wJ {is:List Nat} {i:Nat} (h:i∉is):is.findIdx? (· ==i)=none:=by
 rw[List.findIdx?_eq_none_iff];intro x hx;simp only[beq_eq_false_iff_ne]
 rintro rfl
 exact h hx
theorem Q8 {g g1:aA} {w w':World} {H H0 H1:Heap} {is:List Nat} (h:St L g w H) (hp:Part H is H0) (ha:∀o∈H0,o.alive=true) (hle:(g.small w H is).le g1) (h1:St L g1 w' H1):is.length≤H1.length:=by
 rcases Nat.lt_or_ge H1.length is.length with h'|h'
 ·obtain⟨i,hi⟩:=wR (l:=is) h'
  obtain⟨o,ho⟩:=wR (l:=H0) (k:=H1.length) (by rw[←hp.2.1];exact h');have hH:=hp.2.2 _ i o hi ho;obtain⟨s,e1,_⟩:=(h.obj i _ hH).place (by rw[kG];exact ha o (List.mem_of_getElem? ho));have e2:=hle.ob H1.length _ s (by rw[aA.qg hi];exact e1);rw[h1.new _ _ (Nat.le_refl _)]at e2;cases e2
 ·exact h'
theorem KQ {g g1:aA} {w w':World} {H H0 H1:Heap} {is:List Nat} (h:St L g w H) (hp:Part H is H0) (hle:(g.small w H is).le g1) (h1:St L g1 w' H1) (hlen:is.length≤H1.length):
  g.le (g.big g1 H.length is)∧St L (g.big g1 H.length is) w' (mG H is ((H1.take is.length).map (gV (nameOf is H.length))) ++(H1.drop is.length).map (gV (nameOf is H.length)))∧
   ∀i v s,g1.ob i v=some s→(g.big g1 H.length is).ob (nameOf is H.length i) v=some s:=by
 have Zn:∀i∈is,i<H.length:=fun i hi=>by
  obtain⟨k,hk⟩:=List.mem_iff_getElem?.1 hi;exact hp.lt hk
 have hob:∀i v,(g.big g1 H.length is).ob (nameOf is H.length i) v=g1.ob i v:=fun i v=>by
  cases hi:is[i]? with
  |some j=>rw[lY hi];simp only[aA.big,Yb hp.1 hi]
  |none=>
   have hge:is.length≤i:=by
    rcases Nat.lt_or_ge i is.length with h'|h'
    ·obtain⟨x,hx⟩:=wR h';rw[hi]at hx;cases hx
    ·exact h'
   rw[jI hge];simp only[aA.big];rw[wJ (fun hm=>by have:=Zn _ hm;omega)];simp only;rw[if_pos (by omega),show is.length+(H.length+(i-is.length)-H.length)=i from by omega]
 have hold:∀j v,j∉is→j<H.length→(g.big g1 H.length is).ob j v=g.ob j v:=fun j v hj hlt=>by
  simp only[aA.big,wJ hj];rw[if_neg (by omega)]
 have Zm:∀b,g.kp b≠none→(g.small w H is).kp b=w.heap[b]?∧¬nU g H is b:=fun b hb=>by
  have:¬nU g H is b:=fun⟨i,hi,o,s,e1,e2,e3,e4⟩=>by
   obtain⟨s',k1,k2⟩:=(h.obj i o e1).place e2;rw[e3]at k1;cases k1;subst e4;exact hb k2.2
  exact⟨aA.zR this,this⟩
 have Tq:∀b,¬nU g H is b→b<w.heap.size→w'.heap[b]?=w.heap[b]?∧(g.small w H is).kp b≠none:=fun b hb hlt=>by
  have e0:w.heap[b]?=some w.heap[b]:=Array.getElem?_eq_getElem hlt;have e1:=aA.zR (w:=w) hb;refine⟨?_,by rw[e1,e0];simp⟩;rw[e0];exact h1.kp b _ (by rw[hle.kp,e1,e0])
 have hsize:w.heap.size≤w'.heap.size:=by
  rcases Nat.lt_or_ge w'.heap.size w.heap.size with h'|h'
  ·have hlt:w.heap.size-1<w.heap.size:=by omega
   by_cases hs:nU g H is (w.heap.size-1)
   ·obtain⟨i,hi,o,s,e1,e2,e3,e4⟩:=hs
    obtain⟨k,hk⟩:=List.mem_iff_getElem?.1 hi;have:=h1.bnd k _ s (hle.ob k _ s (by rw[aA.qg hk];exact e3));omega
   ·have:=(Tq _ hs hlt).1
    rw[Array.getElem?_eq_none (by omega),Array.getElem?_eq_getElem hlt]at this;cases this
  ·exact h'
 have hfzk:∀b o,(g.small w H is).kp b≠none→g1.fz b o=g.fz b o:=fun b o hb=>hle.fzk b o hb
 have hle2:g.le (g.big g1 H.length is):=by
  refine⟨rfl,rfl,fun b o v hv=>hle.fz b o v hv,fun j v s hs=>?_,rfl,fun b o hb=>?_,fun _ h=>h⟩
  ·by_cases hj:j∈is
   ·obtain⟨k,hk⟩:=List.mem_iff_getElem?.1 hj
    have:=hob k v;rw[lY hk]at this;rw[this];exact hle.ob k v s (by rw[aA.qg hk];exact hs)
   ·rcases Nat.lt_or_ge j H.length with hlt|hge
    ·rw[hold j v hj hlt];exact hs
    ·rw[h.new j v hge]at hs;cases hs
  ·refine hfzk b o ?_
   obtain⟨e1,_⟩:=Zm b hb;rw[e1]
   cases hk:g.kp b with
   |none=>exact absurd hk hb
   |some ob=>rw[h.kp b ob hk];simp
 have hob2:∀i v s,g1.ob i v=some s→(g.big g1 H.length is).ob (nameOf is H.length i) v=some s:=fun i v s hs=>by rw[hob];exact hs
 have hown2:∀b,g1.own b→(g.big g1 H.length is).own b:=fun b ⟨e1,e2⟩=>by
  refine⟨by have:=hle.base;simp only[aA.small]at this;show g.base≤b;rw[←this];exact e1,?_⟩;show g.kp b=none
  cases hk:g.kp b with
  |none=>rfl
  |some ob=>
   obtain⟨e3,_⟩:=Zm b (by rw[hk];simp);rw[hle.kp,e3,h.kp b ob hk]at e2;cases e2
 have hput:(mG H is ((H1.take is.length).map (gV (nameOf is H.length)))).length=H.length:=Bh _ _ _
 have cls:∀(j:Nat) (o:aU),(mG H is ((H1.take is.length).map (gV (nameOf is H.length))) ++(H1.drop is.length).map (gV (nameOf is H.length)))[j]?=some o→
   (∃k o1,j=nameOf is H.length k∧H1[k]?=some o1∧o=gV (nameOf is H.length) o1)∨(j∉is∧j<H.length∧H[j]?=some o):=fun j o hj=>by
  rcases Nat.lt_or_ge j H.length with hlt|hge
  ·rw[List.getElem?_append_left (by rw[hput];exact hlt)]at hj
   by_cases hm:j∈is
   ·obtain⟨k,hk⟩:=List.mem_iff_getElem?.1 hm
    have hkl:k<is.length:=by
     rcases Nat.lt_or_ge k is.length with h'|h'
     ·exact h'
     ·rw[List.getElem?_eq_none h']at hk;cases hk
    rw[Ol is H _ hp.1 (by simp;omega) Zn k j hk,List.getElem?_map,List.getElem?_take,if_pos hkl]at hj
    cases hk1:H1[k]? with
    |none=>rw[hk1]at hj;cases hj
    |some o1=>rw[hk1]at hj;exact .inl ⟨k,o1,(lY hk).symm,hk1,(Option.some.inj hj).symm⟩
   ·rw[HV is H _ j hm]at hj
    exact .inr ⟨hm,hlt,hj⟩
  ·rw[List.getElem?_append_right (by rw[hput];exact hge),hput,List.getElem?_map,List.getElem?_drop]at hj
   cases hk1:H1[is.length+(j-H.length)]? with
   |none=>rw[hk1]at hj;cases hj
   |some o1=>
    rw[hk1]at hj;exact .inl ⟨is.length+(j-H.length),o1,by rw[jI (by omega)];omega,hk1,(Option.some.inj hj).symm⟩
 have rest:∀(j:Nat) (o:aU) s,j∉is→H[j]?=some o→o.alive=true→g.ob j o.ver=some s→¬nU g H is s.b∧s.b<w.heap.size:=fun j o s hj ho ha hs=>
  ⟨fun⟨i,hi,o',s',e1,e2,e3,e4⟩=>by
   have:=h.inj i j o' o s' s e1 ho e2 ha e3 hs e4;subst this
   exact hj hi,h.bnd _ _ _ hs⟩
 refine⟨hle2,⟨h1.fz,fun j o hj=>?_,fun j v hj=>?_,fun j v s hs=>?_,fun i j o o' s s' hi hj ha ha' e1 e2 hb=>?_,?_,h.bs,h.fact,fun b o hb=>?_,fun b hb=>?_⟩,hob2⟩
 ·rcases cls j o hj with⟨k,o1,rfl,hk,rfl⟩|⟨hm,hlt,hH⟩
  ·exact kN.ren (g:=g1) rfl hob2 (fun v=>hob k v) hown2 (h1.obj k o1 hk)
  ·refine(h.obj j o hH).keep hle2 (fun v=>hold j v hm hlt) fun ha s hs=>?_
   obtain⟨e1,e2⟩:=rest j o s hm hH ha hs;obtain⟨e3,e4⟩:=Tq _ e1 e2;exact⟨e3,fun x=>hfzk _ x e4⟩
 ·simp only[List.length_append,hput,List.length_map,List.length_drop]at hj
  have hm:j∉is:=fun hm=>by have:=Zn j hm;omega
  simp only[aA.big,wJ hm];rw[if_pos (by omega)];exact h1.new _ _ (by omega)
 ·by_cases hm:j∈is
  ·obtain⟨k,hk⟩:=List.mem_iff_getElem?.1 hm
   have:=hob k v;rw[lY hk]at this;rw[this]at hs;exact h1.bnd _ _ _ hs
  ·rcases Nat.lt_or_ge j H.length with hlt|hge
   ·rw[hold j v hm hlt]at hs
    exact Nat.lt_of_lt_of_le (h.bnd _ _ _ hs) hsize
   ·simp only[aA.big,wJ hm]at hs
    rw[if_pos hge]at hs;exact h1.bnd _ _ _ hs
 ·rcases cls i o hi with⟨k,o1,rfl,hk,rfl⟩|⟨hm,hlt,hH⟩<;>rcases cls j o' hj with⟨k',o1',rfl,hk',rfl⟩|⟨hm',hlt',hH'⟩
  ·rw[hob,ql]at e1 e2
   rw[kG]at ha ha';rw[h1.inj k k' o1 o1' s s' hk hk' ha ha' e1 e2 hb]
  ·rw[hob,ql]at e1
   rw[kG]at ha;rw[hold _ _ hm' hlt']at e2;obtain⟨s1,k1,k2⟩:=(h1.obj k o1 hk).place ha;rw[e1]at k1;cases k1;obtain⟨f1,f2⟩:=rest j o' s' hm' hH' ha' e2;obtain⟨_,f4⟩:=Tq _ f1 f2;rw[←hb,←hle.kp]at f4;exact absurd k2.2 f4
  ·rw[hob,ql]at e2
   rw[kG]at ha';rw[hold _ _ hm hlt]at e1;obtain⟨s1,k1,k2⟩:=(h1.obj k' o1' hk').place ha';rw[e2]at k1;cases k1;obtain⟨f1,f2⟩:=rest i o s hm hH ha e1;obtain⟨_,f4⟩:=Tq _ f1 f2;rw[hb,←hle.kp]at f4;exact absurd k2.2 f4
  ·rw[hold _ _ hm hlt]at e1
   rw[hold _ _ hm' hlt']at e2;exact h.inj i j o o' s s' hH hH' ha ha' e1 e2 hb
 ·have hb:=h1.below
  have e1:=hle.base;have e2:=hle.w0;simp only[aA.small]at e1 e2;rw[e1,e2]at hb;exact hb
 ·obtain⟨e1,_⟩:=Zm b (by show g.kp b≠none;rw[show g.kp b=some o from hb];simp)
  exact h1.kp b o (by rw[hle.kp,e1];exact h.kp b o hb)
 ·have hb:g.dk b=true:=hb
  have hd:=h.dk b hb;have hns:¬nU g H is b:=fun⟨i,hi,o',s',e1,e2,e3,e4⟩=>(h.obj i o' e1).Ou e2 e3 (by rw[e4];exact hd)
  rw[(Tq b hns (h.Gl hb)).1];exact hd
theorem aC.mY {f:Nat} {args:List au} {H0:Heap} {Q:fE→Heap→Prop} (h:aC L f args H0 Q) {H:Heap} (is:List Nat) (hp:Part H is H0) (hq:(∀o∈H0,o.alive=true)∨∀r H1,Q r H1→H0.length≤H1.length):
  aC L f (args.map (ren (nameOf is H.length))) H fun r H'=>∃r1 H1,Q r1 H1∧is.length≤H1.length∧r=zT (nameOf is H.length) r1∧
   H'=mG H is ((H1.take is.length).map (gV (nameOf is H.length))) ++(H1.drop is.length).map (gV (nameOf is H.length)):=fun g w vs hs hr=>by
 have hr':aX L (g.small w H is) vs args:=aX.qP (g:=g) (g':=g.small w H is) (ρ:=nameOf is H.length) (fun _ _ _ h=>h) (yJ hs hp) (by rw[fG];exact hr);refine(h _ w vs (hs.small hp) hr').mono fun e w' ⟨r1,H1,g1,hQ,hle,hst,hrep⟩=>?_
 have k1:is.length≤H1.length:=hq.elim (fun ha=>Q8 hs hp ha hle hst) fun hq=>by rw[hp.2.1];exact hq _ _ hQ
 obtain⟨k2,k3,k4⟩:=KQ hs hp hle hst k1;refine⟨_,_,g.big g1 H.length is,⟨r1,H1,hQ,k1,rfl,rfl⟩,k2,k3,?_⟩
 cases r1 with
 |ret x=>obtain⟨v,rfl,hv⟩:=hrep;exact⟨v,rfl,Rep.ren (g:=g1) (g':=g.big g1 H.length is) (fun _ _ _ h=>h) k4 hv⟩
 |pan x=>obtain⟨v,rfl,hv⟩:=hrep;exact⟨v,rfl,Rep.ren (g:=g1) (g':=g.big g1 H.length is) (fun _ _ _ h=>h) k4 hv⟩
theorem aC.frame {f:Nat} {args:List au} {H0:Heap} {Q:fE→Heap→Prop} (h:aC L f args H0 Q) {H:Heap} (is:List Nat) (hp:Part H is H0) (ha:∀o∈H0,o.alive=true):
  aC L f (args.map (ren (nameOf is H.length))) H fun r H'=>∃r1 H1,Q r1 H1∧is.length≤H1.length∧r=zT (nameOf is H.length) r1∧
   H'=mG H is ((H1.take is.length).map (gV (nameOf is H.length))) ++(H1.drop is.length).map (gV (nameOf is H.length)):=h.mY is hp (.inl ha)
theorem aC.dead {f:Nat} {args:List au} {H:Heap} {Q:fE→Heap→Prop} (h:aC L f args (H ++[.dead]) Q):aC L f args H Q:=fun g w vs hs hr=>h g w vs hs.Sn hr
theorem aC.Gp {f:Nat} {args:List au} {H:Heap} {Q:fE→Heap→Prop} (k:Nat) (h:aC L f args (H ++List.replicate k .dead) Q):aC L f args H Q:=by
 induction k generalizing H with
 |zero=>simpa using h
 |succ k ih=>exact aC.dead (ih (by rw[List.append_assoc];exact h))
end Go.Ag

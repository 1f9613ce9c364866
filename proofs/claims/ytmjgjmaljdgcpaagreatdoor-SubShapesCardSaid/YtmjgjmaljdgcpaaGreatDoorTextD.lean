/- Our texts, joined by a program of ours (join.py): part 4 of 9. -/
import Derived.Test.YtmjgjmaljdgcpaaGreatDoorTextC
set_option linter.unusedVariables false
/- Contracts told at a small heap, for use. -/
namespace Go.Ag
open Go
variable {L : Lnk}
def Pure (L:Lnk) (f:Nat) (args:List au) (y:au):Prop:=∀H,aC L f args H fun r H'=>r=.ret y∧H'=H
theorem WB {ρ:Nat→Nat} {args:List au} (h:∀x∈args,Low 0 x):args.map (ren ρ)=args:=
 (List.map_congr_left (g:=id) fun x hx=>iR (n:=0) (fun i hi=>absurd hi (Nat.not_lt_zero i)) (h x hx)).trans (List.map_id args)
theorem Si {ρ:Nat→Nat} {x:au} (h:Low 0 x):ren ρ x=x:=iR (n:=0) (fun i hi=>absurd hi (Nat.not_lt_zero i)) h
theorem Pure.run {f:Nat} {args:List au} {y:au} (ha:∀x∈args,Low 0 x) (hy:Low 0 y) (h:aC L f args [] fun r _=>∃x,r=.ret x∧Weak L x y):Pure L f args y:=fun H=>by
 have h1:aC L f args [] fun r H'=>r=.ret y∧H'=[]:=aC.pure (h.mono fun r H' ⟨x,e1,e2⟩=>⟨H',x,by simp,e1,e2⟩) hy
 have hp:Part H [] []:=⟨List.nodup_nil,rfl,fun k i o hk=>by cases hk⟩;have h2:=h1.frame (H:=H) [] hp (fun o ho=>by cases ho);rw[WB ha]at h2;refine h2.mono fun r H' ⟨r1,H1,⟨e1,e2⟩,_,e3,e4⟩=>?_
 subst e1 e2;refine⟨by rw[e3];simp only[zT];rw[Si hy],by rw[e4];simp[mG]⟩
theorem Pure.to {f:Nat} {args:List au} {y:au} (h:Pure L f args y) {H:Heap} {K KP:au→Heap→Prop} (hk:K y H):aC L f args H (eB K KP):=
 (h H).mono fun r H' ⟨e1,e2⟩=>by subst e1 e2;exact hk
theorem Pure.soft {f:Nat} {args:List au} {y:au} (h:Pure L f args y) {H0:Heap} {K:au→Prop} (hk:K y):
  ∃v,(∀H',agree H0.length H0 H'→aC L f args H' fun r H''=>r=.ret v∧H''=H')∧K v:=⟨y,fun H' _=>h H',hk⟩
theorem aH {x y:au} (h:Weak L x y):∃z,fE.ret x=.ret z∧Weak L z y:=⟨x,rfl,h⟩
theorem aC.gcW {f : Nat} {args : List au} {H0 : Heap} {Q : au → Heap → Prop}
  (h : aC L f args H0 fun r H1 => ∃ x y K K' J, H1 = K ++ J ∧ r = .ret x ∧ Weak L x y ∧ Low H0.length y ∧ K'.length = H0.length ∧ K.length = K'.length ∧
   (∀ (i : Nat) (o o' : aU), K[i]? = some o → K'[i]? = some o' → bJ L o o') ∧ (∀ o ∈ K', bI H0.length o) ∧ Q y K') :
  aC L f args H0 fun r H1 => ∃ y, r = .ret y ∧ H1.length = H0.length ∧ Q y H1 := fun g w vs hs hr =>
 (h g w vs hs hr).mono fun e w' ⟨r, H1, g', ⟨x, y, K, K', J, e1, e2, e3, e4, e5, e6, e7, e8, e9⟩, hle, hst, hrep⟩ => by
  subst e1 e2
  obtain ⟨v, rfl, hrep⟩ := hrep
  have h2 : St L g' w' (K' ++ J) := hst.weak (by simp [e6]) fun i o o' ho ho' => by
   rcases Nat.lt_or_ge i K.length with hi | hi
   ·rw [List.getElem?_append_left hi] at ho
    rw [List.getElem?_append_left (by omega)] at ho'
    exact e7 i o o' ho ho'
   ·rw [List.getElem?_append_right hi] at ho
    rw [List.getElem?_append_right (by omega), ← e6, ho] at ho'
    cases ho'
    exact bJ.refl o
  refine ⟨.ret y, K', g'.cut H0.length, ⟨y, rfl, e5, e9⟩, aA.Af hle fun i v hi => hs.new i v hi, ?_, v, rfl, (e3 _ _ hrep).cut e4⟩
  rw [← e5]
  exact h2.cut (by rw [e5]; exact e8)
theorem Fz :∀(is:List Nat) (os:List aU) (H:Heap),(∀(k i:Nat) (o:aU),is[k]?=some i→os[k]?=some o→H[i]?=some o)→mG H is os=H
 |[],os,H,_=>by cases os<;>rfl
 |i::is,[],H,_=>rfl
 |i::is,o::os,H,h=>by
  have h0:H[i]?=some o:=h 0 i o rfl rfl
  have e:H.set i o=H:=by
   apply List.ext_getElem?;intro j
   by_cases hj:i=j
   ·subst hj
    have hlt:i<H.length:=by
     rcases Nat.lt_or_ge i H.length with h'|h'
     ·exact h'
     ·rw[List.getElem?_eq_none h']at h0;cases h0
    rw[h0];simp[hlt]
   ·rw[List.getElem?_set_ne hj]
  simp only[mG,e];exact Fz is os H fun k j p hj hp=>h (k+1) j p (by simpa using hj) (by simpa using hp)
theorem aC.TN {f:Nat} {args:List au} {H0:Heap} {y:au} (h:aC L f args H0 fun r H'=>r=.ret y∧H'=H0) (ha:∀o∈H0,o.alive=true) {H:Heap} (is:List Nat) (hp:Part H is H0) {args':List au} (hargs:args.map (ren (nameOf is H.length))=args') {y':au} (hy:ren (nameOf is H.length) y=y'):
  aC L f args' H fun r H'=>r=.ret y'∧H'=H:=by
 have h2:=h.frame (H:=H) is hp ha;rw[hargs]at h2;refine h2.mono fun r H' ⟨r1,H1,⟨e1,e2⟩,_,e4,e5⟩=>?_
 subst e1 e2;refine⟨by rw[e4];simp only[zT];rw[hy],?_⟩;rw[e5,hp.2.1,List.take_of_length_le (Nat.le_refl _),List.drop_of_length_le (Nat.le_refl _)];simp only[List.map_nil,List.append_nil];refine Fz _ _ _ fun k i o hk ho=>?_
 rw[List.getElem?_map]at ho
 cases h0:H1[k]? with
 |none=>rw[h0]at ho;cases ho
 |some o0=>rw[h0]at ho;cases ho;exact hp.2.2 k i o0 hk h0
def aA.start (w:World):aA:={w0:=w,base:=w.heap.size,fz:=fun b o=>w.cell? ⟨b,o,none⟩,ob:=fun _ _=>none,kp:=fun _=>none,dk:=fun _=>false}
theorem St.start {w:World} (h:L.start w w.heap.size):St L (aA.start w) w []where
 fz:=fun b o v hv=>hv
 obj:=fun id o ho=>by cases ho
 new:=fun id v _=>rfl
 bnd:=fun id v s hs=>by cases hs
 inj:=fun i j o o' s s' hi=>by cases hi
 below:=RowKit.Below.refl _ _
 bs:=Nat.le_refl _
 fact:=h
 kp:=fun b o hb=>by cases hb
 dk:=fun b hb=>by cases hb
theorem Pure.calls {f:Nat} {args:List au} {y:au} (h:Pure L f args y) {vs:List Value} {w:World} (hst:L.start w w.heap.size) (hr:aX L (aA.start w) vs args):
  Calls L.P (L.num f) vs.toArray w fun e w'=>∃v g,e=.returned v∧Rep L g v y∧RowKit.Below w.heap.size w w':=by
 refine(h [] _ w vs (St.start hst) hr).mono fun e w' ⟨r,H',g',⟨e1,e2⟩,hle,hst',hrep⟩=>?_
 subst e1;obtain⟨v,rfl,hv⟩:=hrep;have hb:=hst'.below;rw[hle.w0,hle.base]at hb;exact⟨v,g',rfl,hv,hb⟩
end Go.Ag
/- The same condition once more: what can be decided of values is decided on the way. -/
namespace Go.Ag
open Go
variable {L : Lnk}
def vT :List au→Bool
 |[]=>true
 |x::xs=>match uJ x with
  |true=>vT xs
  |false=>false
def Ci :List au→Nat→Bool
 |[],0=>true
 |_::xs,n+1=>Ci xs n
 |_,_=>false
def okB (k:Nat) (x:au):Bool:=match Ci x.cells k with
 |true=>vT x.cells
 |false=>false
def J6 (k:Nat):List au→Bool
 |[]=>true
 |v::vs=>match okB k v with
  |true=>J6 k vs
  |false=>false
def Dm :List (Nat×Nat)→List au→Nat→Bool
 |[],_,_=>true
 |(o,k)::ps,v::vs,n=>match okB k v with
  |true=>match Nat.ble (o+k) n with
   |true=>Dm ps vs n
   |false=>false
  |false=>false
 |_,_,_=>false
theorem wS :∀{xs:List au},vT xs=true→xs.all uJ=true
 |[],_=>rfl
 |x::xs,h=>by
  simp only[vT]at h;cases hx:uJ x<;>simp only[hx]at h
  ·cases h
  ·simp[hx,wS h]
theorem Eo :∀{xs:List au} {n:Nat},Ci xs n=true→xs.length=n
 |[],0,_=>rfl
 |_::xs,n+1,h=>by simp[Eo (xs:=xs) h]
 |[],_+1,h=>by cases h
 |_::_,0,h=>by cases h
theorem z8 {k:Nat} {x:au} (h:okB k x=true):jH k x:=by
 unfold okB at h;cases hc:Ci x.cells k<;>simp only[hc]at h
 ·cases h
 ·exact⟨Eo hc,wS h⟩
theorem J5 {k:Nat}:∀{vs:List au},J6 k vs=true→∀v∈vs,jH k v
 |[],_,v,hv=>by cases hv
 |u::us,h,v,hv=>by
  simp only[J6]at h;cases hu:okB k u<;>simp only[hu]at h
  ·cases h
  ·rcases List.mem_cons.1 hv with rfl|hv
   ·exact z8 hu
   ·exact J5 h v hv
theorem FL :∀{ps:List (Nat×Nat)} {vs:List au} {n:Nat},Dm ps vs n=true→Ot ps vs n
 |[],_,_,_=>trivial
 |(o,k)::ps,[],n,h=>by cases h
 |(o,k)::ps,v::vs,n,h=>by
  simp only[Dm]at h;cases hv:okB k v<;>simp only[hv]at h
  ·cases h
  ·cases hn:Nat.ble (o+k) n<;>simp only[hn]at h
   ·cases h
   ·exact⟨⟨z8 hv,Nat.le_of_ble_eq_true hn⟩,FL h⟩
def stepG (L:Lnk) (q:AOp) (e:Env) (H:Heap) (K KP:au→Heap→Prop):Prop:=
 match q with
 |.build z parts=>evs e (parts.map (·.2.2)) fun vs=>match Dm (parts.map fun p=>(p.1,p.2.1)) vs z.length with
  |true=>K (.agg (Bv z (RL (parts.map fun p=>(p.1,p.2.1)) vs))) H
  |false=>False
 |.lit k _ _ _ parts=>evs e (parts.map (·.2)) fun vs=>match J6 k vs with
  |true=>K (.lst vs .full) H
  |false=>False
 |.mkI t x=>force (ev e x) fun v=>K (.iface t v) H
 |.mkF f fi ca=>evs e fi fun a=>evs e ca fun c=>K (.fn f a c) H
 |.append k bytes t s x=>force (ev e s) fun s=>force (ev e x) fun x=>lH k bytes t s x H K
 |.jY bytes t s x=>force (ev e s) fun s=>force (ev e x) fun x=>Gy bytes t s x H K
 |.load k a=>force (ev e a) fun a=>match loadAt H k a with
  |some v=>K v H
  |none=>False
 |.store k a x=>force (ev e a) fun a=>force (ev e x) fun x=>match okB k x with
  |true=>match storeAt H k a x with
   |some H'=>K .undef H'
   |none=>False
  |false=>False
 |.call f args=>evs e args fun abJ=>aC L f abJ H (eB K KP)
 |.box t x=>force (ev e x) fun v=>match vT v.cells with
  |true=>K (.ptr H.length 0) (H ++[.cells v.cells t])
  |false=>False
 |.look kk z ok m k=>force (ev e m) fun m=>force (ev e k) fun k=>match mq kk z ok H m k with
  |some v=>K v H
  |none=>False
 |.clr k z x=>force (ev e x) fun x=>match IV k z H x with
  |some H'=>K (.tup []) H'
  |none=>False
 |.ug kk m k v=>force (ev e m) fun m=>force (ev e k) fun k=>force (ev e v) fun v=>match yO kk H m k v with
  |some H'=>K .undef H'
  |none=>False
 |q=>aF L q e H K KP
theorem kC {q:AOp} {e:Env} {H:Heap} {K KP:au→Heap→Prop} (h:stepG L q e H K KP):aF L q e H K KP:=by
 refine jy ?_;cases q<;>first|exact h|skip
 case build z parts=>
  simp only[stepG,oI]at h;simp only[iC,oI];cases hb:Dm (parts.map fun p=>(p.1,p.2.1)) ((parts.map (·.2.2)).map (ev e)) z.length<;>simp only[hb]at h;exact⟨FL hb,h⟩
 case lit k _ _ _ parts=>
  simp only[stepG,oI]at h;simp only[iC,oI];cases hb:J6 k ((parts.map (·.2)).map (ev e))<;>simp only[hb]at h;exact⟨J5 hb,h⟩
 case store k a x=>
  simp only[stepG,force_eq]at h;simp only[iC,force_eq];cases hb:okB k (ev e x)<;>simp only[hb]at h;exact⟨z8 hb,h⟩
 case box t x=>
  simp only[stepG,force_eq]at h;simp only[iC,force_eq];cases hb:vT (ev e x).cells<;>simp only[hb]at h;exact⟨wS hb,h⟩
def uL (L:Lnk):List AO→Env→Heap→(Env→Heap→Prop)→(au→Heap→Prop)→Prop
 |[],e,H,K,_=>K e H
 |o::os,e,H,K,KP=>match o.guard with
  |none=>stepG L o.op e H (fun v H'=>force v fun v=>uL L os (bg e o.dst v) H' K KP) KP
  |some (t,want)=>match e t with
   |.bool b=>match want,b with
    |true,true=>stepG L o.op e H (fun v H'=>force v fun v=>uL L os (bg e o.dst v) H' K KP) KP
    |false,false=>stepG L o.op e H (fun v H'=>force v fun v=>uL L os (bg e o.dst v) H' K KP) KP
    |true,false=>uL L os (bg e o.dst (.tup [])) H K KP
    |false,true=>uL L os (bg e o.dst (.tup [])) H K KP
   |.tup []=>uL L os (bg e o.dst (.tup [])) H K KP
   |_=>False
theorem nV {K:Env→Heap→Prop} {KP:au→Heap→Prop}:∀(l:List AO) (e:Env) (H:Heap),uL L l e H K KP→nu L l e H K KP
 |[],e,H,h=>h
 |o::os,e,H,h=>by
  have go:stepG L o.op e H (fun v H'=>force v fun v=>uL L os (bg e o.dst v) H' K KP) KP→aF L o.op e H (fun v H'=>nu L os (bg e o.dst v) H' K KP) KP:=fun h=>
   eG (fun v H' h=>by rw[force_eq]at h;exact nV os _ _ h) (fun _ _ h=>h) (kC h)
  simp only[uL]at h;simp only[nu]
  cases hg:o.guard with
  |none=>simp only[hg]at h⊢;exact go h
  |some p=>
   obtain⟨t,want⟩:=p;simp only[hg]at h⊢;cases he:e t<;>simp only[he]at h⊢
   ·rename_i b
    cases want<;>cases b<;>first|exact go h|exact nV os _ _ h
   ·rename_i vs
    cases vs with
    |nil=>exact nV os _ _ h
    |cons=>exact False.elim h
def yI (L:Lnk) (q:AOp) (e:Env) (H0 H:Heap) (K:au→Heap→Prop):Prop:=
 match q with
 |.alloc z t=>K (.ptr H.length 0) (H ++[.cells z t])
 |.box t x=>force (ev e x) fun v=>match vT v.cells with
  |true=>K (.ptr H.length 0) (H ++[.cells v.cells t])
  |false=>False
 |.load k a=>force (ev e a) fun a=>match qU H0.length a with
  |true=>match loadAt H0 k a with
   |some v=>K v H
   |none=>False
  |false=>False
 |.call f args=>evs e args fun abJ=>∃v,(∀H',agree H0.length H0 H'→aC L f abJ H' fun r H''=>r=.ret v∧H''=H')∧K v H
 |.fJ f args=>eP L (.fJ f args) e H0 H K
 |.store _ _ _|.append _ _ _ _ _|.jY _ _ _ _|.GR _ _ _|.panic _|.pE _|.make _ _ _|.mkMap|.look _ _ _ _ _|.ug _ _ _ _|.uo _|.rO _|.vC _|.oG _|.clr _ _ _|.Ik _ _ _=>False
 |q=>stepG L q e H K fun _ _=>False
theorem AZ {q:AOp} {e:Env} {H0 H:Heap} {KH:au→Heap→Prop} (h:yI L q e H0 H KH):eP L q e H0 H KH:=by
 cases q<;>first|exact h|exact kC h|skip
 case box t x=>
  simp only[yI,force_eq]at h;simp only[eP];cases hb:vT (ev e x).cells<;>simp only[hb]at h;exact⟨wS hb,h⟩
 case load k a=>
  simp only[yI,force_eq]at h;simp only[eP];cases hb:qU H0.length (ev e a)<;>simp only[hb]at h;exact⟨rfl,h⟩
 case call f args=>simp only[yI,oI]at h;exact h
 case build z ps=>exact kC (show stepG L (.build z ps) e H KH fun _ _=>False from h)
 case lit k b z m ps=>exact kC (show stepG L (.lit k b z m ps) e H KH fun _ _=>False from h)
 case mkI t x=>exact kC (show stepG L (.mkI t x) e H KH fun _ _=>False from h)
 case mkF f a c=>exact kC (show stepG L (.mkF f a c) e H KH fun _ _=>False from h)
def pV (L:Lnk) (H0:Heap):List AO→Env→Heap→(Env→Heap→Prop)→Prop
 |[],e,H,K=>K e H
 |o::os,e,H,K=>match o.guard with
  |none=>yI L o.op e H0 H (fun v H'=>force v fun v=>pV L H0 os (bg e o.dst v) H' K)
  |some (t,want)=>match e t with
   |.bool b=>match want,b with
    |true,true=>yI L o.op e H0 H (fun v H'=>force v fun v=>pV L H0 os (bg e o.dst v) H' K)
    |false,false=>yI L o.op e H0 H (fun v H'=>force v fun v=>pV L H0 os (bg e o.dst v) H' K)
    |true,false=>pV L H0 os (bg e o.dst (.tup [])) H K
    |false,true=>pV L H0 os (bg e o.dst (.tup [])) H K
   |.tup []=>pV L H0 os (bg e o.dst (.tup [])) H K
   |_=>False
theorem mK {H0:Heap} {K:Env→Heap→Prop}:∀(l:List AO) (e:Env) (H:Heap),pV L H0 l e H K→iA L H0 l e H K
 |[],e,H,h=>h
 |o::os,e,H,h=>by
  have go:yI L o.op e H0 H (fun v H'=>force v fun v=>pV L H0 os (bg e o.dst v) H' K)→eP L o.op e H0 H (fun v H'=>iA L H0 os (bg e o.dst v) H' K):=fun h=>
   iX (fun v H' h=>by rw[force_eq]at h;exact mK os _ _ h) (AZ h)
  simp only[pV]at h;simp only[iA]
  cases hg:o.guard with
  |none=>simp only[hg]at h⊢;exact go h
  |some p=>
   obtain⟨t,want⟩:=p;simp only[hg]at h⊢;cases he:e t<;>simp only[he]at h⊢
   ·rename_i b
    cases want<;>cases b<;>first|exact go h|exact mK os _ _ h
   ·rename_i vs
    cases vs with
    |nil=>exact mK os _ _ h
    |cons=>exact False.elim h
def Cu (L:Lnk) (e0:Env) (H0:Heap):LT→Env→Heap→(Env→Heap→Prop)→(au→Heap→Prop)→Prop
 |.done,e,H,K,_=>K e H
 |.stop,_,_,_,_=>True
 |.bad,_,_,_,_=>False
 |.alt o ks t more,e,H,K,KP=>Bn more (match o.guard with
  |none=>stepG L o.op e H (fun v H'=>force v fun v=>jU ks e0 H0 H' (Cu L e0 H0 t (bg e o.dst v) H' K KP)) KP
  |some (s,want)=>match e s with
   |.bool b=>match want,b with
    |true,true=>stepG L o.op e H (fun v H'=>force v fun v=>jU ks e0 H0 H' (Cu L e0 H0 t (bg e o.dst v) H' K KP)) KP
    |false,false=>stepG L o.op e H (fun v H'=>force v fun v=>jU ks e0 H0 H' (Cu L e0 H0 t (bg e o.dst v) H' K KP)) KP
    |true,false=>Cu L e0 H0 t (bg e o.dst (.tup [])) H K KP
    |false,true=>Cu L e0 H0 t (bg e o.dst (.tup [])) H K KP
   |.tup []=>Cu L e0 H0 t (bg e o.dst (.tup [])) H K KP
   |_=>False) (Cu L e0 H0 more e H K KP)
theorem LX {e0:Env} {H0:Heap} {K:Env→Heap→Prop} {KP:au→Heap→Prop}:∀(t:LT) (e:Env) (H:Heap),Cu L e0 H0 t e H K KP→xlt L e0 H0 t e H K KP:=by
 intro t
 induction t with
 |done=>exact fun e H h=>h
 |stop=>exact fun e H h=>h
 |bad=>exact fun e H h=>h
 |alt o ks t more iht ihm=>
  intro e H h
  have go:stepG L o.op e H (fun v H'=>force v fun v=>jU ks e0 H0 H' (Cu L e0 H0 t (bg e o.dst v) H' K KP)) KP→aF L o.op e H (fun v H'=>jU ks e0 H0 H' (xlt L e0 H0 t (bg e o.dst v) H' K KP)) KP:=fun h=>
   eG (fun v H' h=>by rw[force_eq]at h;exact ny (iht _ _) h) (fun _ _ h=>h) (kC h)
  simp only[Cu]at h;simp only[xlt]
  refine sD ?_ (by
   by_cases hm:more=.stop
   ·exact uN hm
   ·exact ihm _ _ (yV (fun h=>absurd h hm) h))
  replace h:=qZ h
  cases hg:o.guard with
  |none=>simp only[hg]at h⊢;exact go h
  |some p=>
   obtain⟨s,want⟩:=p;simp only[hg]at h⊢;cases he:e s<;>simp only[he]at h⊢
   ·rename_i b
    cases want<;>cases b<;>first|exact go h|exact iht _ _ h
   ·rename_i vs
    cases vs with
    |nil=>exact iht _ _ h
    |cons=>exact False.elim h
def lU (L : Lnk) : AC → Env → Heap → ng → Prop
 | .skip, e, H, Q => Q .normal e H
 | .ops l, e, H, Q => uL L l e H (fun e' H' => Q .normal e' H') (fun v H' => Q (.pan v) e H')
 | .draw soft hard, e, H, Q => pV L H soft e H (fun e' H' => uL L hard e' H' (fun e'' H'' => Q .normal e'' H'') (fun v H'' => Q (.pan v) e' H''))
 | .iy soft t, e, H, Q => pV L H soft e H (fun e' H' => Cu L e' H t e' H' (fun e'' H'' => Q .normal e'' H'') (fun v H'' => Q (.pan v) e' H''))
 | .seq a b, e, H, Q => lU L a e H (tN (fun e' H' => lU L b e' H' Q) Q)
 | .cond c a b, e, H, Q => match ev e c with
  | .bool t => match t with
   | true => lU L a e H Q
   | false => lU L b e H Q
  | _ => False
 | .block id c, e, H, Q => lU L c e H (Vo id Q)
 | .loop c, e, H, Q => ∀ I : Env → Heap → Prop, (∀ e H, lU L c e H (tN I Q) → I e H) → GC L H.length I → I e H
 | .exit id, e, H, Q => Q (.exit id) e H
 | .ret, e, H, Q => Q .ret e H
 | .bad, _, _, _ => False
 | .tO f ps asg body, e, H, Q => match ev e f with
  | .fn (.func g) fi ca => ∀ r : rQ, r.e = e →
    (∀ (args : List au) (H1 : Heap) (R : fE → Heap → Prop), args.length = ps.length → H1[H.length]? = some (.loop r .ready) →
     lU L asg (Bb e ps args) H1 (uX H.length r fun e2 H2 => lU L body e2 H2 (Hr H.length r R)) → iZ L H.length args H1 R) →
    aC L g (fi ++ [.yld H.length] ++ ca) (H ++ [.loop r .ready]) (Kg H.length r Q e)
  | _ => False
theorem kQ :∀(c:AC) (e:Env) (H:Heap) (Q:ng),lU L c e H Q→dI L c e H Q:=by
 intro c
 induction c with
 |skip=>exact fun e H Q h=>h
 |ops l=>exact fun e H Q h=>nV l e H h
 |draw soft hard=>exact fun e H Q h=>gP (fun _ _ h=>nV hard _ _ h) (mK soft e H h)
 |iy soft t=>exact fun e H Q h=>gP (fun _ _ h=>LX t _ _ h) (mK soft e H h)
 |seq a b iha ihb=>
  intro e H Q h;have h':lU L a e H (tN (fun e' H'=>lU L b e' H' Q) Q):=h;show dI L a e H (tN (fun e' H'=>dI L b e' H' Q) Q);refine lT (Q:=tN (fun e' H'=>lU L b e' H' Q) Q) (fun x e H h=>?_) (iha _ _ _ h')
  cases x with
  |normal=>exact ihb _ _ _ h
  |_=>exact h
 |cond c a b iha ihb=>
  intro e H Q h;simp only[lU]at h;simp only[dI];cases hc:ev e c<;>simp only[hc]at h⊢;rename_i t;cases t
  ·exact ihb _ _ _ h
  ·exact iha _ _ _ h
 |block id c ih=>exact fun e H Q h=>ih e H _ h
 |loop c ih=>
  intro e H Q h I hI hG;exact h I (fun e H hc=>hI e H (ih _ _ _ hc)) hG
 |exit id=>exact fun e H Q h=>h
 |ret=>exact fun e H Q h=>h
 |bad=>exact fun e H Q h=>h
 |tO f ps asg body iha ihb=>
  intro e H Q h;simp only[lU]at h;simp only[dI];cases hf:ev e f<;>simp only[hf]at h⊢;rename_i af fi ca;cases af<;>try exact h.elim
  exact fun r hr hy=>h r hr fun args H1 R h1 h2 h3=>hy args H1 R h1 h2 (lT (fun x e H hx=>Bc (fun e H h=>ihb _ _ _ h) hx) (iha _ _ _ h3))
def YO (L:Lnk) (af:aM) (args:List au) (H:Heap) (Q:fE→Heap→Prop):Prop:=
 lU L af.body (fun i=>args.getD i .undef) H (TK af.results Q)
theorem aG {T:Tab} {f:Nat} {af:aM} (hf:T.has f af) {args:List au} {H:Heap} {Q:fE→Heap→Prop} (hlen:args.length≤af.ntmps) (h:YO T.L af args H Q):aC T.L f args H Q:=
 Az hf hlen (kQ _ _ _ _ h)
end Go.Ag
/- Slots for tails: a list that lies in a variable and is appended to, its tail at a place of its own; contracts at a heap's first objects. -/
namespace Go.Ag
open Go
variable {L : Lnk}
def bK (n id:Nat):Tok:=match n with
 |0=>.nil
 |_+1=>.tail id
def bC (n t:Nat):aU:=match n with
 |0=>.dead
 |n+1=>.tail (n+1) t
theorem dS {k bytes t id:Nat} {xs ys:List au} {tk0:Tok} {H:Heap} {K:au→Heap→Prop} (hx:dB k xs) (hy:dB k ys) (hb:(xs.length+ys.length)*bytes≤2^46) (hl:xs.length+ys.length≤2^46) (hne:ys≠[])
  (hid:H[id]?=some (bC xs.length t)) (h:K (.lst (xs ++ys) (bK (xs ++ys).length id)) (H.set id (bC (xs ++ys).length t))):lH k bytes t (.lst xs (bK xs.length id)) (.lst ys tk0) H K:=by
 have hn:∃m,(xs ++ys).length=m+1:=by
  cases hm:(xs ++ys).length with
  |zero=>
   rw[List.length_append]at hm;exact absurd (List.eq_nil_of_length_eq_zero (by omega)) hne
  |succ m=>exact⟨m,rfl⟩
 obtain⟨m,hm⟩:=hn;rw[hm]at h;simp only[bK,bC]at h;unfold lH;refine⟨hx,hy,hb,hl,?_⟩;rw[if_neg hne,hm]
 cases hn:xs.length with
 |zero=>
  rw[hn]at hid;exact .inr (.inl ⟨id,hid,h⟩)
 |succ n=>
  rw[hn]at hid;simp only[bK,bC]at hid⊢;rw[hid];exact⟨⟨rfl,rfl⟩,h⟩
def X9 (n id:Nat):Tok:=match n with
 |0=>.full
 |_+1=>.tail id
theorem pU {k bytes t id:Nat} {xs ys:List au} {tk0:Tok} {H:Heap} {K:au→Heap→Prop} (hx:dB k xs) (hy:dB k ys) (hb:(xs.length+ys.length)*bytes≤2^46) (hl:xs.length+ys.length≤2^46)
  (hid:H[id]?=some (bC xs.length t)) (h:K (.lst (xs ++ys) (X9 (xs ++ys).length id)) (H.set id (bC (xs ++ys).length t))):lH k bytes t (.lst xs (X9 xs.length id)) (.lst ys tk0) H K:=by
 by_cases hne:ys=[]
 ·subst hne
  unfold lH;refine⟨hx,hy,hb,hl,?_⟩;rw[if_pos rfl];rw[List.append_nil]at h
  have hset:H.set id (bC xs.length t)=H:=by
   apply List.ext_getElem?;intro i;rw[List.getElem?_set];split
   ·rename_i e
    subst e;split
    ·exact hid.symm
    ·rename_i hlt
     rw[List.getElem?_eq_none (by omega)]
   ·rfl
  rw[hset]at h;exact h
 have hn:∃m,(xs ++ys).length=m+1:=by
  cases hm:(xs ++ys).length with
  |zero=>
   rw[List.length_append]at hm;exact absurd (List.eq_nil_of_length_eq_zero (by omega)) hne
  |succ m=>exact⟨m,rfl⟩
 obtain⟨m,hm⟩:=hn;rw[hm]at h;simp only[X9,bC]at h;unfold lH;refine⟨hx,hy,hb,hl,?_⟩;rw[if_neg hne,hm]
 cases hn:xs.length with
 |zero=>
  rw[hn]at hid;exact .inr (.inl ⟨id,hid,h⟩)
 |succ n=>
  rw[hn]at hid;simp only[X9,bC]at hid⊢;rw[hid];exact⟨⟨rfl,rfl⟩,h⟩
def Rv (b n id:Nat):Tok:=if n≤b then .full else .tail id
def Rw (b n t:Nat):aU:=if n≤b then .dead else .tail n t
theorem Gx {b k bytes t id:Nat} {xs ys:List au} {tk0:Tok} {H:Heap} {K:au→Heap→Prop} (hx:dB k xs) (hy:dB k ys) (hb:(xs.length+ys.length)*bytes≤2^46) (hl:xs.length+ys.length≤2^46) (hne:ys≠[]) (hbx:b≤xs.length)
  (hid:H[id]?=some (Rw b xs.length t)) (h:K (.lst (xs ++ys) (Rv b (xs ++ys).length id)) (H.set id (Rw b (xs ++ys).length t))):lH k bytes t (.lst xs (Rv b xs.length id)) (.lst ys tk0) H K:=by
 have hlt:¬(xs ++ys).length≤b:=by
  have:ys.length≠0:=fun e=>hne (List.eq_nil_of_length_eq_zero e)
  rw[List.length_append];omega
 unfold Rv Rw at h;rw[if_neg hlt,if_neg hlt]at h;unfold lH;refine⟨hx,hy,hb,hl,?_⟩;rw[if_neg hne];unfold Rw at hid;unfold Rv
 by_cases hn:xs.length≤b
 ·rw[if_pos hn]at hid⊢
  exact .inr (.inl ⟨id,hid,h⟩)
 ·rw[if_neg hn]at hid⊢
  dsimp only;rw[hid];exact⟨⟨rfl,rfl⟩,h⟩
theorem Pure.weak {f:Nat} {args args':List au} {y:au} (h:Pure L f args' y) (hw:ni L args args'):Pure L f args y:=fun H g w vs hs hr=>h H g w vs hs (hr.weak hw)
theorem Pure.Ms (k:Nat) {f:Nat} {args:List au} {y:au} (ha:∀x∈args,Low 0 x) (hy:Low 0 y) (h:aC L f args (List.replicate k .dead) fun r _=>∃x,r=.ret x∧Weak L x y):Pure L f args y:=
 Pure.run ha hy (aC.Gp k (by simpa using h))
theorem dO {n m id:Nat} (h:id<n):nC n (bK m id):=by cases m<;>first|trivial|exact h
theorem bG (n m t:Nat):bI n (bC m t):=by cases m<;>trivial
def nK (L:Lnk):Heap→Heap→Prop
 |[],[]=>True
 |o::K,o'::H=>bJ L o o'∧nK L K H
 |_,_=>False
theorem nK.len :∀{K H:Heap},nK L K H→K.length=H.length
 |[],[],_=>rfl
 |o::K,o'::H,h=>by simp[nK.len h.2]
 |[],_::_,h=>h.elim
 |_::_,[],h=>h.elim
theorem nK.at :∀{K H:Heap},nK L K H→∀(i:Nat) (o o':aU),K[i]?=some o→H[i]?=some o'→bJ L o o'
 |[],[],_,i,o,o',h,_=>by simp at h
 |x::K,x'::H,h,i,o,o',h1,h2=>by
  cases i with
  |zero=>simp at h1 h2;subst h1 h2;exact h.1
  |succ i=>exact nK.at h.2 i o o' (by simpa using h1) (by simpa using h2)
 |[],_::_,h,_,_,_,_,_=>h.elim
 |_::_,[],h,_,_,_,_,_=>h.elim
theorem nK.refl :∀(H:Heap),nK L H H
 |[]=>trivial
 |o::H=>⟨bJ.refl o,nK.refl H⟩
def eX (n:Nat):Heap→Prop
 |[]=>True
 |o::H=>bI n o∧eX n H
theorem eX.at {n:Nat}:∀{H:Heap},eX n H→∀o∈H,bI n o
 |[],_,o,h=>by cases h
 |x::H,h,o,ho=>by
  rcases List.mem_cons.1 ho with rfl|ho
  ·exact h.1
  ·exact eX.at h.2 o ho
def Slots (L:Lnk) (n:Nat) (e:Env):List (Nat×au)→Prop
 |[]=>True
 |p::l=>(Weak L (e p.1) p.2∧Low n p.2)∧Slots L n e l
theorem Slots.at {n:Nat} {e:Env}:∀{l:List (Nat×au)},Slots L n e l→∀p∈l,Weak L (e p.1) p.2∧Low n p.2
 |[],_,p,h=>by cases h
 |q::l,h,p,hp=>by
  rcases List.mem_cons.1 hp with rfl|hp
  ·exact h.1
  ·exact Slots.at h.2 p hp
theorem GC.Ka {n0:Nat} {I:Env→Heap→Prop} (hG:GC L n0 I) (l:List (Nat×au)) (H K J:Heap) {e':Env} {H':Heap} (hH:H'=K ++J) (hn:n0≤H.length)
  (hw:nK L K H) (hl:Slots L H.length e' l) (hlo:eX H.length H) (hI:I (gB (fun _=>.undef) l) H):I e' H':=
 GC.next hG l H K J hH hn hw.len hl.at hw.at hlo.at hI
def gq (n:Nat):List au→Prop
 |[]=>True
 |x::l=>Low n x∧gq n l
theorem gq.at {n:Nat}:∀{l:List au},gq n l→∀x∈l,Low n x
 |[],_,x,h=>by cases h
 |y::l,h,x,hx=>by
  rcases List.mem_cons.1 hx with rfl|hx
  ·exact h.1
  ·exact gq.at h.2 x hx
theorem dH {n t:Nat} {cs:List au} (h:gq n cs):bI n (.cells cs t):=h.at
def ZT (n:Nat):List (Nat×au)→Prop
 |[]=>True
 |p::l=>Low n p.2∧ZT n l
theorem uT {n:Nat} {e:Env}:∀{l:List (Nat×au)},fC e l→ZT n l→Slots L n e l
 |[],_,_=>trivial
 |(i,v)::l,h,hl=>⟨⟨by show Weak L (e i) v;rw[h.1];exact Weak.refl _,hl.1⟩,uT h.2 hl.2⟩
theorem GC.keep {n0:Nat} {I:Env→Heap→Prop} (hG:GC L n0 I) (l:List (Nat×au)) (H:Heap) {e':Env} {H':Heap} (hn:n0≤H.length) (hH:H'.take H.length=H)
  (he:fC e' l) (hl:ZT H.length l) (hlo:eX H.length H) (hI:I (gB (fun _=>.undef) l) H):I e' H':=
 hG.Ka l H H (H'.drop H.length) (by
  conv=>lhs;rw[←List.take_append_drop H.length H',hH]) hn (nK.refl H) (uT he hl) hlo hI
def xJ (L:Lnk) (f:Nat) (args:List au) (a b:aU) (y:au) (a' b':aU):Prop:=
 aC L f args [a,b] fun r H'=>r=.ret y∧H'=[a',b']
theorem Yw {n:Nat} {x:au} (h:Low 2 x):ren (nameOf [0,1] n) x=x:=iR (n:=2) (fun i hi=>by
 have:i=0∨i=1:=by omega
 rcases this with rfl|rfl<;>rfl) h
theorem og {ρ:Nat→Nat} {n:Nat} (hρ:∀i,i<n→ρ i=i) {xs:List au} (h:∀x∈xs,Low n x):xs.map (ren ρ)=xs:=
 (List.map_congr_left (g:=id) fun x hx=>iR hρ (h x hx)).trans (List.map_id xs)
theorem jm {ρ:Nat→Nat} {n:Nat} (hρ:∀i,i<n→ρ i=i) {o:aU} (h:bI n o):gV ρ o=o:=by
 cases o with
 |cells cs t=>simp only[gV];rw[fG,og hρ h]
 |arr v xs t=>simp only[gV];rw[fG,og hρ h]
 |map es c=>
  simp only[gV];rw[show es.map (fun p=>(ren ρ p.1,ren ρ p.2.1,p.2.2))=es from(List.map_congr_left (g:=id) fun x hx=>by rw[iR hρ (h x hx).1,iR hρ (h x hx).2];rfl).trans (List.map_id es)]
 |iJ m since seen last=>
  cases m with
  |none=>rfl
  |some m=>simp only[gV,Option.map_some];rw[hρ m h]
 |loop r st=>
  simp only[gV];rw[show(fun i=>ren ρ (r.e i))=r.e from funext fun i=>iR hρ (h i)]
 |_=>rfl
theorem Hu {n:Nat} {o:aU} (h:bI 2 o):gV (nameOf [0,1] n) o=o:=jm (n:=2) (fun i hi=>by
 have:i=0∨i=1:=by omega
 rcases this with rfl|rfl<;>rfl) h
def bX (L:Lnk) (f:Nat) (args:List au) (H0:Heap) (y:au) (H1:Heap):Prop:=
 aC L f args H0 fun r H'=>r=.ret y∧H'=H1
theorem uf {k n i:Nat} (h:i<k):nameOf (List.range k) n i=i:=lY (by simp[h])
theorem tQ :∀(os H0 J A:Heap),os.length=H0.length→mG (A ++(H0 ++J)) (List.range' A.length H0.length) os=A ++(os ++J)
 |[],[],J,A,_=>rfl
 |[],_::_,_,_,h=>by cases h
 |_::_,[],_,_,h=>by cases h
 |o::os,p::H0,J,A,h=>by
  simp only[List.length_cons,List.range'_succ,mG];have e1:(A ++(p::H0 ++J)).set A.length o=(A ++[o]) ++(H0 ++J):=by simp
  rw[e1];have:=tQ os H0 J (A ++[o]) (by simpa using h);simp only[List.length_append,List.length_cons,List.length_nil]at this;rw[this];simp
theorem bX.at {f:Nat} {args:List au} {H0 H1:Heap} {y:au} (h:bX L f args H0 y H1) (hlen:H1.length=H0.length) (hargs:∀x∈args,Low H0.length x) (h0:∀o∈H0,bI H0.length o) (hy:Low H0.length y) (h1:∀o∈H1,bI H0.length o) (J:Heap):
  aC L f args (H0 ++J) fun r H'=>r=.ret y∧H'=H1 ++J:=by
 have hρ:∀i,i<H0.length→nameOf (List.range H0.length) (H0 ++J).length i=i:=fun i hi=>uf hi
 have hp:Part (H0 ++J) (List.range H0.length) H0:=by
  refine⟨List.nodup_range,by simp,fun k i o hk ho=>?_⟩
  have hk0:k<H0.length:=by
   rcases Nat.lt_or_ge k H0.length with h'|h'
   ·exact h'
   ·rw[List.getElem?_eq_none h']at ho;cases ho
  rw[List.getElem?_range hk0]at hk;cases hk;rw[jm hρ (h0 o (List.mem_of_getElem? ho)),List.getElem?_append_left hk0];exact ho
 have hf:=aC.mY h (List.range H0.length) hp (.inr fun r H' hq=>by rw[hq.2,hlen];exact Nat.le_refl _);rw[og hρ hargs]at hf;refine hf.mono fun r H' ⟨r1,H1',⟨e1,e2⟩,_,e3,e4⟩=>?_
 subst e1 e2;refine⟨by rw[e3];simp only[zT];rw[iR hρ hy],?_⟩;have hm:H1'.map (gV (nameOf (List.range H0.length) (H0 ++J).length))=H1':=(List.map_congr_left (g:=id) fun o ho=>jm hρ (h1 o ho)).trans (List.map_id _);rw[e4,List.length_range,←hlen,List.take_of_length_le (Nat.le_refl _),List.drop_of_length_le (Nat.le_refl _),hlen,hm,List.map_nil,List.append_nil];have:=tQ H1' H0 J [] hlen;simpa[List.range_eq_range']using this
theorem bX.of {f:Nat} {args:List au} {H0 H1:Heap} {y:au} (k:Nat) (hlen:H1.length=H0.length) (hy:Low H0.length y) (h1:∀o∈H1,bI H0.length o)
  (h:aC L f args (H0 ++List.replicate k .dead) fun r H'=>∃x K J,r=.ret x∧Weak L x y∧H'=K ++J∧K.length=H1.length∧∀(i:Nat) (o o':aU),K[i]?=some o→H1[i]?=some o'→bJ L o o'):bX L f args H0 y H1:=by
 have h2:=aC.Gp k h;refine(aC.gcW (Q:=fun z H'=>z=y∧H'=H1) (h2.mono fun r H' ⟨x,K,J,e1,e2,e3,e4,e5⟩=>?_)).mono fun r H' ⟨z,e1,_,e2,e3⟩=>⟨by rw[e1,e2],e3⟩
 exact⟨x,y,K,H1,J,e3,e1,e2,hy,hlen,e4,e5,h1,rfl,rfl⟩
theorem xJ.at {f:Nat} {args:List au} {a b a' b':aU} {y:au} (h:xJ L f args a b y a' b') (hargs:∀x∈args,Low 2 x) (ha:bI 2 a) (hb:bI 2 b) (hy:Low 2 y) (ha':bI 2 a') (hb':bI 2 b') (J:Heap):
  aC L f args (a::b::J) fun r H'=>r=.ret y∧H'=a'::b'::J:=by
 have hp:Part (a::b::J) [0,1] [a,b]:=by
  refine⟨by decide,rfl,fun k i o hk ho=>?_⟩
  match k,hk,ho with
  |0,hk,ho=>simp at hk ho;subst hk ho;rw[Hu ha];rfl
  |1,hk,ho=>simp at hk ho;subst hk ho;rw[Hu hb];rfl
  |k+2,hk,ho=>simp at hk
 have h1:=aC.mY h [0,1] hp (.inr fun r H1 hq=>by rw[hq.2];exact Nat.le_refl _);rw[show args.map (ren (nameOf [0,1] (a::b::J).length))=args from(List.map_congr_left (g:=id) fun x hx=>Yw (hargs x hx)).trans (List.map_id args)]at h1;refine h1.mono fun r H' ⟨r1,H1,⟨e1,e2⟩,_,e3,e4⟩=>?_
 subst e1 e2;refine⟨by rw[e3];simp only[zT];rw[Yw hy],by rw[e4];simp[mG,Hu ha',Hu hb']⟩
theorem xJ.of {f:Nat} {args:List au} {a b a' b':aU} {y:au} (k:Nat) (hy:Low 2 y) (ha':bI 2 a') (hb':bI 2 b')
  (h:aC L f args ([a,b] ++List.replicate k .dead) fun r H1=>∃x J,r=.ret x∧Weak L x y∧H1=a'::b'::J):xJ L f args a b y a' b':=by
 have h1:=aC.Gp k h;refine(aC.gcW (Q:=fun z H'=>z=y∧H'=[a',b']) (h1.mono fun r H1 ⟨x,J,e1,e2,e3⟩=>?_)).mono fun r H1 ⟨z,e1,_,e2,e3⟩=>⟨by rw[e1,e2],e3⟩
 exact⟨x,y,[a',b'],[a',b'],J,by rw[e3];rfl,e1,e2,hy,rfl,rfl,fun i o o' h1 h2=>by rw[h1]at h2;cases h2;exact bJ.refl o,fun o ho=>by
  simp only[List.mem_cons,List.not_mem_nil,or_false]at ho;rcases ho with rfl|rfl
  ·exact ha'
  ·exact hb',rfl,rfl⟩
end Go.Ag
/- Contracts at a heap's first objects of functions that end either way. -/
namespace Go.Ag
open Go
variable {L : Lnk}
def xH (L:Lnk):fE→fE→Prop
 |.ret x,.ret y=>Weak L x y
 |.pan x,.pan y=>Weak L x y
 |_,_=>False
def fE.v :fE→au
 |.ret x=>x
 |.pan x=>x
theorem aC.gcR {f : Nat} {args : List au} {H0 : Heap} {Q : fE → Heap → Prop}
  (h : aC L f args H0 fun r H1 => ∃ r' K K' J, H1 = K ++ J ∧ xH L r r' ∧ Low H0.length r'.v ∧ K'.length = H0.length ∧ K.length = K'.length ∧
   (∀ (i : Nat) (o o' : aU), K[i]? = some o → K'[i]? = some o' → bJ L o o') ∧ (∀ o ∈ K', bI H0.length o) ∧ Q r' K') :
  aC L f args H0 fun r H1 => H1.length = H0.length ∧ Q r H1 := fun g w vs hs hr =>
 (h g w vs hs hr).mono fun e w' ⟨r, H1, g', ⟨r', K, K', J, e1, e3, e4, e5, e6, e7, e8, e9⟩, hle, hst, hrep⟩ => by
  subst e1
  have h2 : St L g' w' (K' ++ J) := hst.weak (by simp [e6]) fun i o o' ho ho' => by
   rcases Nat.lt_or_ge i K.length with hi | hi
   ·rw [List.getElem?_append_left hi] at ho
    rw [List.getElem?_append_left (by omega)] at ho'
    exact e7 i o o' ho ho'
   ·rw [List.getElem?_append_right hi] at ho
    rw [List.getElem?_append_right (by omega), ← e6, ho] at ho'
    cases ho'
    exact bJ.refl o
  refine ⟨r', K', g'.cut H0.length, ⟨e5, e9⟩, aA.Af hle fun i v hi => hs.new i v hi, ?_, ?_⟩
  ·rw [← e5]
   exact h2.cut (by rw [e5]; exact e8)
  ·cases r with
   | ret x =>
    cases r' with
    | ret y => obtain ⟨v, rfl, hrep⟩ := hrep; exact ⟨v, rfl, (e3 _ _ hrep).cut e4⟩
    | pan y => exact e3.elim
   | pan x =>
    cases r' with
    | ret y => exact e3.elim
    | pan y => obtain ⟨v, rfl, hrep⟩ := hrep; exact ⟨v, rfl, (e3 _ _ hrep).cut e4⟩
def jf (L:Lnk) (f:Nat) (args:List au) (H0:Heap) (r0:fE) (H1:Heap):Prop:=
 aC L f args H0 fun r H'=>r=r0∧H'=H1
theorem jf.at {f:Nat} {args:List au} {H0 H1:Heap} {r0:fE} (h:jf L f args H0 r0 H1) (hlen:H1.length=H0.length) (hargs:∀x∈args,Low H0.length x) (h0:∀o∈H0,bI H0.length o) (hy:Low H0.length r0.v) (h1:∀o∈H1,bI H0.length o) (J:Heap):
  aC L f args (H0 ++J) fun r H'=>r=r0∧H'=H1 ++J:=by
 have hρ:∀i,i<H0.length→nameOf (List.range H0.length) (H0 ++J).length i=i:=fun i hi=>uf hi
 have hp:Part (H0 ++J) (List.range H0.length) H0:=by
  refine⟨List.nodup_range,by simp,fun k i o hk ho=>?_⟩
  have hk0:k<H0.length:=by
   rcases Nat.lt_or_ge k H0.length with h'|h'
   ·exact h'
   ·rw[List.getElem?_eq_none h']at ho;cases ho
  rw[List.getElem?_range hk0]at hk;cases hk;rw[jm hρ (h0 o (List.mem_of_getElem? ho)),List.getElem?_append_left hk0];exact ho
 have hf:=aC.mY h (List.range H0.length) hp (.inr fun r H' hq=>by rw[hq.2,hlen];exact Nat.le_refl _);rw[og hρ hargs]at hf;refine hf.mono fun r H' ⟨r1,H1',⟨e1,e2⟩,_,e3,e4⟩=>?_
 subst e1 e2;refine⟨?_,?_⟩
 ·rw[e3]
  cases r1 with
  |ret x=>exact congrArg fE.ret (iR hρ hy)
  |pan x=>exact congrArg fE.pan (iR hρ hy)
 have hm:H1'.map (gV (nameOf (List.range H0.length) (H0 ++J).length))=H1':=(List.map_congr_left (g:=id) fun o ho=>jm hρ (h1 o ho)).trans (List.map_id _);rw[e4,List.length_range,←hlen,List.take_of_length_le (Nat.le_refl _),List.drop_of_length_le (Nat.le_refl _),hlen,hm,List.map_nil,List.append_nil];have:=tQ H1' H0 J [] hlen;simpa[List.range_eq_range']using this
theorem jf.of {f:Nat} {args:List au} {H0 H1:Heap} {r0:fE} (k:Nat) (hlen:H1.length=H0.length) (hy:Low H0.length r0.v) (h1:∀o∈H1,bI H0.length o)
  (h:aC L f args (H0 ++List.replicate k .dead) fun r H'=>∃K J,xH L r r0∧H'=K ++J∧K.length=H1.length∧∀(i:Nat) (o o':aU),K[i]?=some o→H1[i]?=some o'→bJ L o o'):jf L f args H0 r0 H1:=by
 have h2:=aC.Gp k h;refine(aC.gcR (Q:=fun z H'=>z=r0∧H'=H1) (h2.mono fun r H' ⟨K,J,e2,e3,e4,e5⟩=>?_)).mono fun r H' ⟨_,e2,e3⟩=>⟨e2,e3⟩
 exact⟨r0,K,H1,J,e3,e2,hy,hlen,e4,e5,h1,rfl,rfl⟩
theorem aI {n m:Nat} (hnm:n≤m) {o:aU} (h:bI n o):bI m o:=by
 cases o with
 |cells cs t=>exact fun x hx=>(h x hx).mono hnm
 |arr v xs t=>exact fun x hx=>(h x hx).mono hnm
 |map es c=>exact fun e he=>⟨(h e he).1.mono hnm,(h e he).2.mono hnm⟩
 |iJ q since seen last=>cases q with
  |none=>exact h
  |some q=>exact Nat.lt_of_lt_of_le h hnm
 |loop r st=>exact fun i=>(h i).mono hnm
 |_=>exact h
end Go.Ag
/- A round's contract, told at a small heap: new things forgotten; in any heap that goes on behind it. -/
namespace Go.Ag
open Go
variable {L : Lnk}
theorem iZ.mY {id:Nat} {args:List au} {H0:Heap} {Q:fE→Heap→Prop} (h:iZ L id args H0 Q) {H:Heap} (is:List Nat) (hp:Part H is H0) (hq:∀r H1,Q r H1→H0.length≤H1.length):
  iZ L (nameOf is H.length id) (args.map (ren (nameOf is H.length))) H fun r H'=>∃r1 H1,Q r1 H1∧is.length≤H1.length∧r=zT (nameOf is H.length) r1∧
   H'=mG H is ((H1.take is.length).map (gV (nameOf is H.length))) ++(H1.drop is.length).map (gV (nameOf is H.length)):=fun g w vs s hs hr ho=>by
 have hr':aX L (g.small w H is) vs args:=aX.qP (g:=g) (g':=g.small w H is) (ρ:=nameOf is H.length) (fun _ _ _ h=>h) (yJ hs hp) (by rw[fG];exact hr);obtain⟨f,tmps,asg,body,h1,h2⟩:=h _ w vs s (hs.small hp) hr' (yJ hs hp _ _ _ ho);refine⟨f,tmps,asg,body,h1,h2.mono fun e w' ⟨r1,H1,g1,hQ,hle,hst,hrep⟩=>?_⟩;have k1:is.length≤H1.length:=by rw[hp.2.1];exact hq _ _ hQ
 obtain⟨k2,k3,k4⟩:=KQ hs hp hle hst k1;refine⟨_,_,g.big g1 H.length is,⟨r1,H1,hQ,k1,rfl,rfl⟩,k2,k3,?_⟩
 cases r1 with
 |ret x=>obtain⟨v,rfl,hv⟩:=hrep;exact⟨v,rfl,Rep.ren (g:=g1) (g':=g.big g1 H.length is) (fun _ _ _ h=>h) k4 hv⟩
 |pan x=>obtain⟨v,rfl,hv⟩:=hrep;exact⟨v,rfl,Rep.ren (g:=g1) (g':=g.big g1 H.length is) (fun _ _ _ h=>h) k4 hv⟩
theorem iZ.gcR {id : Nat} {args : List au} {H0 : Heap} {Q : fE → Heap → Prop}
  (h : iZ L id args H0 fun r H1 => ∃ r' K K' J, H1 = K ++ J ∧ xH L r r' ∧ Low H0.length r'.v ∧ K'.length = H0.length ∧ K.length = K'.length ∧
   (∀ (i : Nat) (o o' : aU), K[i]? = some o → K'[i]? = some o' → bJ L o o') ∧ (∀ o ∈ K', bI H0.length o) ∧ Q r' K') :
  iZ L id args H0 fun r H1 => H1.length = H0.length ∧ Q r H1 := fun g w vs s hs hr ho => by
 obtain ⟨f, tmps, asg, body, h1, h2⟩ := h g w vs s hs hr ho
 refine ⟨f, tmps, asg, body, h1, h2.mono fun e w' ⟨r, H1, g', ⟨r', K, K', J, e1, e3, e4, e5, e6, e7, e8, e9⟩, hle, hst, hrep⟩ => ?_⟩
 subst e1
 have h2 : St L g' w' (K' ++ J) := hst.weak (by simp [e6]) fun i o o' ho ho' => by
  rcases Nat.lt_or_ge i K.length with hi | hi
  ·rw [List.getElem?_append_left hi] at ho
   rw [List.getElem?_append_left (by omega)] at ho'
   exact e7 i o o' ho ho'
  ·rw [List.getElem?_append_right hi] at ho
   rw [List.getElem?_append_right (by omega), ← e6, ho] at ho'
   cases ho'
   exact bJ.refl o
 refine ⟨r', K', g'.cut H0.length, ⟨e5, e9⟩, aA.Af hle fun i v hi => hs.new i v hi, ?_, ?_⟩
 ·rw [← e5]
  exact h2.cut (by rw [e5]; exact e8)
 ·cases r with
  | ret x =>
   cases r' with
   | ret y => obtain ⟨v, rfl, hrep⟩ := hrep; exact ⟨v, rfl, (e3 _ _ hrep).cut e4⟩
   | pan y => exact e3.elim
  | pan x =>
   cases r' with
   | ret y => exact e3.elim
   | pan y => obtain ⟨v, rfl, hrep⟩ := hrep; exact ⟨v, rfl, (e3 _ _ hrep).cut e4⟩
def l8 (L:Lnk) (id:Nat) (args:List au) (H0:Heap) (r0:fE) (H1:Heap):Prop:=iZ L id args H0 fun r H'=>r=r0∧H'=H1
theorem l8.at {id:Nat} {args:List au} {H0 H1:Heap} {r0:fE} (h:l8 L id args H0 r0 H1) (hid:id<H0.length) (hlen:H1.length=H0.length) (hargs:∀x∈args,Low H0.length x) (h0:∀o∈H0,bI H0.length o) (hy:Low H0.length r0.v) (h1:∀o∈H1,bI H0.length o) (J:Heap):
  iZ L id args (H0 ++J) fun r H'=>r=r0∧H'=H1 ++J:=by
 have hρ:∀i,i<H0.length→nameOf (List.range H0.length) (H0 ++J).length i=i:=fun i hi=>uf hi
 have hp:Part (H0 ++J) (List.range H0.length) H0:=by
  refine⟨List.nodup_range,by simp,fun k i o hk ho=>?_⟩
  have hk0:k<H0.length:=by
   rcases Nat.lt_or_ge k H0.length with h'|h'
   ·exact h'
   ·rw[List.getElem?_eq_none h']at ho;cases ho
  rw[List.getElem?_range hk0]at hk;cases hk;rw[jm hρ (h0 o (List.mem_of_getElem? ho)),List.getElem?_append_left hk0];exact ho
 have hf:=iZ.mY h (List.range H0.length) hp (fun r H' hq=>by rw[hq.2,hlen];exact Nat.le_refl _);rw[og hρ hargs,hρ id hid]at hf;refine hf.mono fun r H' ⟨r1,H1',⟨e1,e2⟩,_,e3,e4⟩=>?_
 subst e1 e2;refine⟨?_,?_⟩
 ·rw[e3]
  cases r1 with
  |ret x=>exact congrArg fE.ret (iR hρ hy)
  |pan x=>exact congrArg fE.pan (iR hρ hy)
 have hm:H1'.map (gV (nameOf (List.range H0.length) (H0 ++J).length))=H1':=(List.map_congr_left (g:=_root_.id) fun o ho=>jm hρ (h1 o ho)).trans (List.map_id _);rw[e4,List.length_range,←hlen,List.take_of_length_le (Nat.le_refl _),List.drop_of_length_le (Nat.le_refl _),hlen,hm,List.map_nil,List.append_nil];have:=tQ H1' H0 J [] hlen;simpa[List.range_eq_range']using this
theorem l8.of {id:Nat} {args:List au} {H0 H1:Heap} {r0:fE} (hlen:H1.length=H0.length) (hy:Low H0.length r0.v) (h1:∀o∈H1,bI H0.length o)
  (h:iZ L id args H0 fun r H'=>∃K J,xH L r r0∧H'=K ++J∧K.length=H1.length∧∀(i:Nat) (o o':aU),K[i]?=some o→H1[i]?=some o'→bJ L o o'):l8 L id args H0 r0 H1:=
 (iZ.gcR (Q:=fun z H'=>z=r0∧H'=H1) (h.mono fun r H' ⟨K,J,e2,e3,e4,e5⟩=>⟨r0,K,H1,J,e3,e2,hy,hlen,e4,e5,h1,rfl,rfl⟩)).mono fun r H' ⟨_,e2,e3⟩=>⟨e2,e3⟩
theorem l8.to {id:Nat} {args:List au} {H0 H1:Heap} {r0:fE} (h:l8 L id args H0 r0 H1) (hid:id<H0.length) (hlen:H1.length=H0.length) (hargs:∀x∈args,Low H0.length x) (h0:∀o∈H0,bI H0.length o) (hy:Low H0.length r0.v) (h1:∀o∈H1,bI H0.length o)
  {H:Heap} {K KP:au→Heap→Prop} (J:Heap) (hH:H=H0 ++J) (hk:eB K KP r0 (H1 ++J)):iZ L id args H (eB K KP):=by
 subst hH;exact(h.at hid hlen hargs h0 hy h1 J).mono fun r H' ⟨e1,e2⟩=>by subst e1 e2;exact hk
end Go.Ag
/- Abstract codes, printed by a program of ours (acode.py) out of the given program's form. -/
namespace Go.Ag
open Go
def Pd :aM:=(.mk 1 4 [2] (.seq (.ops [(.d 1 (.box 173 0)),(.d 2 (.mv (.const .lM)))]) (.seq (.ops [(.d 3 (.mkF (.func 294) [] [1])),(.d 2 (.mv 3))]) .ret)))
def OY :aM:=(.mk 2 33 [] (.seq (.ops [(.d 8 (.load none 1)),(.d 9 (.jo 8)),(.d 10 (.mv (.const (.i 0))))]) (.block 0 (.loop (.seq (.ops [(.d 11 (.bin .lss 10 9))]) (.seq (.cond 11 .skip (.exit 0)) (.seq (.block 1 (.seq (.ops [(.d 12 (.aV 4 8 10)),(.d 13 (.load (some 4) 12)),(.d 4 (.alloc [(.i 0),(.str []),.nl,.nl] 175)),(.n (.store 4 4 13))]) (.seq (.ops [(.d 14 (.load (some 4) 4)),(.d 15 (.lit 4 72 [] 1 [(0,14)])),(.d 5 (.mv 15))]) (.seq (.seq (.ops [(.d 16 (.aB 0 4)),(.d 17 (.load none 16)),(.d 18 (.bin .eql 17 (.const (.i 7))))]) (.cond 18 (.ops [(.d 19 (.aB 3 4)),(.d 20 (.load none 19)),(.d 5 (.mv 20))]) .skip)) (.seq (.ops [(.d 21 (.mv 5)),(.d 22 (.jo 21)),(.d 23 (.mv (.const (.i 0))))]) (.block 2 (.loop (.seq (.ops [(.d 24 (.bin .lss 23 22))]) (.seq (.cond 24 .skip (.exit 2)) (.seq (.block 3 (.seq (.ops [(.d 25 (.aV 4 21 23)),(.d 26 (.load (some 4) 25)),(.d 7 (.alloc [(.i 0),(.str []),.nl,.nl] 175)),(.n (.store 4 7 26))]) (.seq (.ops [(.d 27 (.mv 0)),(.d 28 (.load (some 4) 7)),(.d 29 (.fJ 27 [28])),(.d 30 (.un .not 29))]) (.cond 30 .ret .skip)))) (.ops [(.d 31 (.bin .add 23 (.const (.i 1)))),(.d 23 (.mv 31))]))))))))))) (.ops [(.d 32 (.bin .add 10 (.const (.i 1)))),(.d 10 (.mv 32))]))))))))
def UO :aM:=(.mk 1 49 [(.cell 2 (some 4))] (.seq (.ops [(.d 2 (.alloc [(.i 0),(.str []),.nl,.nl] 175))]) (.seq (.ops [(.d 3 (.alloc [.nl] 303))]) (.seq (.seq (.ops [(.d 8 (.mv 0)),(.d 9 (.call 251 [8]))]) (.block 0 (.tO 9 [10] (.ops [(.d 4 (.alloc [(.i 0),(.str []),.nl,.nl] 175)),(.n (.store 4 4 10))]) (.block 1 (.seq (.seq (.ops [(.d 11 (.aB 0 4)),(.d 12 (.load none 11)),(.d 13 (.bin .eql 12 (.const (.i 4))))]) (.cond 13 (.seq (.ops [(.d 14 (.load (some 4) 4)),(.n (.store 4 2 14))]) .ret) .skip)) (.iy [(.d 15 (.load none 3)),(.d 16 (.load (some 4) 4)),(.d 17 (.load (some 4) 4))] (.alt (.d 18 (.call 191 [17])) [(none,3),((some 4),4)] (.alt (.d 19 (.build [(.i 0),(.str []),.nl,.nl,(.str [])] [(0,(4,16)),(4,(1,18))])) [] (.alt (.d 20 (.lit 5 88 [] 1 [(0,19)])) [] (.alt (.d 21 (.append 5 88 306 15 20)) [] (.alt (.n (.store 1 3 21)) [] .done .stop) .stop) .stop) .stop) .stop))))))) (.seq (.ops [(.d 22 (.load none 3)),(.d 23 (.call 252 [22,(.const (.fn (.func 253) [] []))]))]) (.seq (.ops [(.d 24 (.load none 3)),(.d 25 (.call 255 [24,(.const (.fn (.func 256) [] []))])),(.n (.store 1 3 25))]) (.seq (.seq (.ops [(.d 26 (.load none 3)),(.d 27 (.jo 26)),(.d 28 (.bin .eql 27 (.const (.i 1))))]) (.cond 28 (.seq (.ops [(.d 29 (.load none 3)),(.d 30 (.aV 5 29 (.const (.i 0)))),(.d 31 (.aB 0 30)),(.d 32 (.load (some 4) 31)),(.n (.store 4 2 32))]) .ret) .skip)) (.seq (.ops [(.d 33 (.build [(.i 0),(.str []),.nl,.nl] [(0,(1,(.const (.i 7))))])),(.d 5 (.alloc [(.i 0),(.str []),.nl,.nl] 175)),(.n (.store 4 5 33))]) (.seq (.seq (.ops [(.d 34 (.load none 3)),(.d 35 (.jo 34)),(.d 36 (.mv (.const (.i 0))))]) (.block 2 (.loop (.seq (.ops [(.d 37 (.bin .lss 36 35))]) (.seq (.cond 37 .skip (.exit 2)) (.seq (.block 3 (.seq (.ops [(.d 38 (.aV 5 34 36)),(.d 39 (.load (some 5) 38)),(.d 7 (.alloc [(.i 0),(.str []),.nl,.nl,(.str [])] 306)),(.n (.store 5 7 39))]) (.ops [(.d 40 (.aB 3 5)),(.d 41 (.load none 40)),(.d 42 (.aB 0 7)),(.d 43 (.load (some 4) 42)),(.d 44 (.lit 4 72 [] 1 [(0,43)])),(.d 45 (.append 4 72 175 41 44)),(.d 46 (.aB 3 5)),(.n (.store 1 46 45))]))) (.ops [(.d 47 (.bin .add 36 (.const (.i 1)))),(.d 36 (.mv 47))]))))))) (.seq (.ops [(.d 48 (.load (some 4) 5)),(.n (.store 4 2 48))]) .ret))))))))))
def YI :aM:=(.mk 2 10 [4] (.seq (.ops [(.d 2 (.box 306 0)),(.d 3 (.box 306 1)),(.d 4 (.mv (.const (.i 0))))]) (.seq (.ops [(.d 5 (.aB 4 2)),(.d 6 (.load none 5)),(.d 7 (.aB 4 3)),(.d 8 (.load none 7)),(.d 9 (.call 254 [6,8])),(.d 4 (.mv 9))]) .ret)))
def Lj :aM:=(.mk 2 10 [4] (.seq (.ops [(.d 2 (.box 306 0)),(.d 3 (.box 306 1)),(.d 4 (.mv (.const (.bool false))))]) (.seq (.ops [(.d 5 (.aB 4 2)),(.d 6 (.load none 5)),(.d 7 (.aB 4 3)),(.d 8 (.load none 7)),(.d 9 (.bin .eql 6 8)),(.d 4 (.mv 9))]) .ret)))
def U6 :aM:=(.mk 1 33 [(.cell 2 (some 4))] (.seq (.ops [(.d 1 (.box 175 0)),(.d 2 (.alloc [(.i 0),(.str []),.nl,.nl] 175))]) (.seq (.ops [(.d 3 (.mv (.const .nl)))]) (.seq (.seq (.ops [(.d 6 (.aB 3 1)),(.d 7 (.load none 6)),(.d 8 (.jo 7)),(.d 9 (.mv (.const (.i 0))))]) (.block 0 (.loop (.seq (.ops [(.d 10 (.bin .lss 9 8))]) (.seq (.cond 10 .skip (.exit 0)) (.seq (.block 1 (.seq (.ops [(.d 11 (.aV 4 7 9)),(.d 12 (.load (some 4) 11)),(.d 5 (.alloc [(.i 0),(.str []),.nl,.nl] 175)),(.n (.store 4 5 12))]) (.ops [(.d 13 (.mv 3)),(.d 14 (.load (some 4) 5)),(.d 15 (.call 186 [14])),(.d 16 (.lit 4 72 [] 1 [(0,15)])),(.d 17 (.append 4 72 175 13 16)),(.d 3 (.mv 17))]))) (.ops [(.d 18 (.bin .add 9 (.const (.i 1)))),(.d 9 (.mv 18))]))))))) (.seq (.seq (.ops [(.d 19 (.aB 0 1)),(.d 20 (.load none 19)),(.d 21 (.bin .eql 20 (.const (.i 7))))]) (.cond 21 (.seq (.ops [(.d 22 (.mv 3)),(.d 23 (.call 224 [22])),(.n (.store 4 2 23))]) .ret) .skip)) (.seq (.iy [(.d 24 (.aB 0 1)),(.d 25 (.load none 24)),(.d 26 (.aB 1 1)),(.d 27 (.load none 26)),(.d 28 (.aB 2 1)),(.d 29 (.load none 28)),(.d 31 (.mv 3))] (.alt (.d 30 (.call 208 [29])) [(none,24),(none,26)] (.alt (.d 32 (.build [(.i 0),(.str []),.nl,.nl] [(0,(1,25)),(1,(1,27)),(2,(1,30)),(3,(1,31))])) [] (.alt (.n (.store 4 2 32)) [] .done .stop) .stop) .stop)) .ret))))))
def Vi :aM:=(.mk 1 6 [2] (.seq (.ops [(.d 1 (.box 175 0)),(.d 2 (.mv (.const (.str []))))]) (.seq (.ops [(.d 3 (.load (some 4) 1)),(.d 4 (.call 186 [3])),(.d 5 (.call 191 [4])),(.d 2 (.mv 5))]) .ret)))
def Vh :aM:=(.mk 1 6 [(.cell 2 (some 4))] (.seq (.ops [(.d 2 (.alloc [(.i 0),(.str []),.nl,.nl] 175))]) (.seq (.ops [(.d 3 (.mv 0)),(.d 4 (.build [(.i 0),(.str []),.nl,.nl] [(0,(1,(.const (.i 7)))),(3,(1,3))])),(.d 5 (.call 186 [4])),(.n (.store 4 2 5))]) .ret)))
def Pb :aM:=(.mk 2 66 [4] (.seq (.ops [(.d 4 (.mv (.const .nl)))]) (.seq (.seq (.ops [(.d 8 (.mv 0)),(.d 9 (.jo 8)),(.d 10 (.bin .lss 9 (.const (.i 2))))]) (.cond 10 (.seq (.ops [(.d 11 (.mv 0)),(.d 4 (.mv 11))]) .ret) .skip)) (.seq (.seq (.ops [(.d 5 (.mv (.const (.i 1))))]) (.block 0 (.loop (.seq (.seq (.ops [(.d 12 (.mv 5)),(.d 13 (.mv 0)),(.d 14 (.jo 13)),(.d 15 (.bin .lss 12 14))]) (.cond 15 .skip (.exit 0))) (.seq (.block 1 (.seq (.iy [(.d 18 (.mv 1)),(.d 19 (.mv 0)),(.d 20 (.mv 5)),(.d 21 (.aV 5 19 20)),(.d 23 (.mv 0)),(.d 24 (.mv 5)),(.d 25 (.bin .sub 24 (.const (.i 1)))),(.d 26 (.aV 5 23 25))] (.alt (.d 22 (.load (some 5) 21)) [] (.alt (.d 27 (.load (some 5) 26)) [] (.alt (.d 28 (.fJ 18 [22,27])) [] .done .stop) .stop) .stop)) (.cond 28 (.seq (.ops [(.d 29 (.mv 0)),(.d 30 (.mv 5)),(.d 31 (.yK 5 29 (some 30) none)),(.d 6 (.mv 31))]) (.seq (.seq (.ops [(.d 7 (.mv (.const (.i 1))))]) (.block 2 (.loop (.seq (.seq (.ops [(.d 32 (.mv 7)),(.d 33 (.mv 6)),(.d 34 (.jo 33)),(.d 35 (.bin .lss 32 34))]) (.cond 35 .skip (.exit 2))) (.seq (.block 3 (.seq (.iy [(.d 38 (.mv 1)),(.d 39 (.mv 6)),(.d 40 (.mv 7)),(.d 41 (.aV 5 39 40)),(.d 43 (.mv 6)),(.d 44 (.mv 7)),(.d 45 (.bin .sub 44 (.const (.i 1)))),(.d 46 (.aV 5 43 45))] (.alt (.d 42 (.load (some 5) 41)) [] (.alt (.d 47 (.load (some 5) 46)) [] (.alt (.d 48 (.fJ 38 [42,47])) [] (.alt (.d 49 (.un .not 48)) [] .done .stop) .stop) .stop) .stop)) (.cond 49 (.seq (.ops [(.d 50 (.mv 0)),(.d 51 (.mv 5)),(.d 52 (.mv 6)),(.d 53 (.mv 7)),(.d 54 (.aV 5 52 53)),(.d 55 (.load (some 5) 54)),(.d 56 (.aV 5 50 51)),(.n (.store 5 56 55))]) (.ops [(.d 57 (.mv 5)),(.d 58 (.bin .add 57 (.const (.i 1)))),(.d 5 (.mv 58))])) .skip))) (.ops [(.d 36 (.mv 7)),(.d 37 (.bin .add 36 (.const (.i 1)))),(.d 7 (.mv 37))])))))) (.seq (.ops [(.d 59 (.mv 0)),(.d 60 (.mv 5)),(.d 61 (.yK 5 59 (some 60) none)),(.n (.clr 5 (.agg [(.i 0),(.str []),.nl,.nl,(.str [])]) 61))]) (.seq (.ops [(.d 62 (.mv 0)),(.d 63 (.mv 5)),(.d 64 (.yK 5 62 none (some 63))),(.d 4 (.mv 64))]) .ret)))) .skip))) (.ops [(.d 16 (.mv 5)),(.d 17 (.bin .add 16 (.const (.i 1)))),(.d 5 (.mv 17))])))))) (.seq (.ops [(.d 65 (.mv 0)),(.d 4 (.mv 65))]) .ret)))))
end Go.Ag
/- Abstract codes, printed by a program of ours (acode.py) out of the given program's form. -/
namespace Go.Ag
open Go
def UJ :aM:=(.mk 2 57 [4] (.seq (.ops [(.d 2 (.box 175 0)),(.d 4 (.mv (.const (.str []))))]) (.seq (.seq (.ops [(.d 5 (.aB 0 2)),(.d 6 (.load none 5))]) (.block 0 (.seq (.ops [(.d 8 (.bin .eql 6 (.const (.i 1)))),(.d 7 (.mv 8))]) (.cond 7 (.seq (.ops [(.d 4 (.mv (.const (.str [105,110,116]))))]) .ret) (.seq (.ops [(.d 10 (.bin .eql 6 (.const (.i 2)))),(.d 9 (.mv 10))]) (.cond 9 (.seq (.ops [(.d 4 (.mv (.const (.str [98,111,111,108]))))]) .ret) (.seq (.ops [(.d 12 (.bin .eql 6 (.const (.i 3)))),(.d 11 (.mv 12))]) (.cond 11 (.seq (.ops [(.d 4 (.mv (.const (.str [116,101,120,116]))))]) .ret) (.seq (.ops [(.d 14 (.bin .eql 6 (.const (.i 4)))),(.d 13 (.mv 14))]) (.cond 13 (.seq (.ops [(.d 4 (.mv (.const (.str [63]))))]) .ret) (.seq (.ops [(.d 16 (.bin .eql 6 (.const (.i 5)))),(.d 15 (.mv 16))]) (.cond 15 (.seq (.ops [(.d 17 (.aB 2 2)),(.d 18 (.load none 17)),(.d 19 (.jo 18)),(.d 20 (.mkF (.func 263) [] [2])),(.d 21 (.call 262 [19,(.const (.str [44,32])),20])),(.d 22 (.bin .add (.const (.str [123])) 21)),(.d 23 (.bin .add 22 (.const (.str [125])))),(.d 4 (.mv 23))]) .ret) (.seq (.ops [(.d 25 (.bin .eql 6 (.const (.i 6)))),(.d 24 (.mv 25))]) (.cond 24 (.seq (.draw [(.d 26 (.aB 3 2)),(.d 27 (.load none 26)),(.d 28 (.aV 4 27 (.const (.i 0)))),(.d 29 (.load (some 4) 28)),(.d 30 (.call 230 [29,(.const (.i 2))])),(.d 31 (.bin .add 30 (.const (.str [32,45,62,32])))),(.d 32 (.aB 3 2)),(.d 33 (.load none 32)),(.d 34 (.aV 4 33 (.const (.i 1)))),(.d 35 (.load (some 4) 34)),(.d 36 (.call 230 [35,(.const (.i 1))])),(.d 37 (.bin .add 31 36)),(.d 38 (.mv 1)),(.d 39 (.bin .geq 38 (.const (.i 2)))),(.d 40 (.call 264 [37,39])),(.d 4 (.mv 40))] []) .ret) (.seq (.ops [(.d 42 (.bin .eql 6 (.const (.i 7)))),(.d 41 (.mv 42))]) (.cond 41 (.seq (.seq (.ops [(.d 43 (.aB 3 2)),(.d 44 (.load none 43)),(.d 45 (.jo 44)),(.d 46 (.bin .eql 45 (.const (.i 0))))]) (.cond 46 (.seq (.ops [(.d 4 (.mv (.const (.str [110,101,118,101,114]))))]) .ret) .skip)) (.seq (.ops [(.d 47 (.aB 3 2)),(.d 48 (.load none 47)),(.d 49 (.jo 48)),(.d 50 (.mkF (.func 265) [] [2])),(.d 51 (.call 262 [49,(.const (.str [32,124,32])),50])),(.d 52 (.mv 1)),(.d 53 (.bin .geq 52 (.const (.i 1)))),(.d 54 (.call 264 [51,53])),(.d 4 (.mv 54))]) .ret)) .skip)))))))))))))))) (.seq (.ops [(.d 55 (.aB 1 2)),(.d 56 (.load none 55)),(.d 4 (.mv 56))]) .ret))))
def Uw :aM:=(.mk 2 17 [3] (.seq (.ops [(.d 3 (.mv (.const (.str []))))]) (.seq (.iy [(.d 4 (.aB 2 1)),(.d 5 (.load none 4)),(.d 6 (.mv 0)),(.d 7 (.aV 1 5 6)),(.d 8 (.load none 7)),(.d 9 (.bin .add 8 (.const (.str [58,32])))),(.d 10 (.aB 3 1)),(.d 11 (.load none 10)),(.d 12 (.mv 0)),(.d 13 (.aV 4 11 12)),(.d 14 (.load (some 4) 13))] (.alt (.d 15 (.call 230 [14,(.const (.i 0))])) [(none,4),(none,7)] (.alt (.d 16 (.bin .add 9 15)) [] (.alt (.d 3 (.mv 16)) [] .done .stop) .stop) .stop)) .ret)))
def Uu :aM:=(.mk 2 10 [3] (.seq (.ops [(.d 3 (.mv (.const (.str []))))]) (.seq (.ops [(.d 4 (.aB 3 1)),(.d 5 (.load none 4)),(.d 6 (.mv 0)),(.d 7 (.aV 4 5 6)),(.d 8 (.load (some 4) 7)),(.d 9 (.call 230 [8,(.const (.i 1))])),(.d 3 (.mv 9))]) .ret)))
def Ux :aM:=(.mk 3 23 [6] (.seq (.ops [(.d 6 (.mv (.const (.str []))))]) (.seq (.ops [(.d 7 (.mv (.const .nl)))]) (.seq (.seq (.ops [(.d 9 (.mv 0)),(.d 10 (.mv (.const (.i 0))))]) (.block 0 (.loop (.seq (.ops [(.d 11 (.bin .lss 10 9))]) (.seq (.cond 11 .skip (.exit 0)) (.seq (.block 1 (.seq (.ops [(.d 12 (.mv 10)),(.d 8 (.mv 12))]) (.ops [(.d 13 (.mv 7)),(.d 14 (.mv 2)),(.d 15 (.mv 8)),(.d 16 (.fJ 14 [15])),(.d 17 (.lit 1 16 [] 1 [(0,16)])),(.d 18 (.append 1 16 10 13 17)),(.d 7 (.mv 18))]))) (.ops [(.d 19 (.bin .add 10 (.const (.i 1)))),(.d 10 (.mv 19))]))))))) (.seq (.ops [(.d 20 (.mv 7)),(.d 21 (.mv 1)),(.d 22 (.call 20 [20,21])),(.d 6 (.mv 22))]) .ret)))))
def Uv :aM:=(.mk 2 10 [4] (.seq (.ops [(.d 4 (.mv (.const (.str []))))]) (.seq (.seq (.ops [(.d 5 (.mv 1))]) (.cond 5 (.seq (.ops [(.d 6 (.mv 0)),(.d 7 (.bin .add (.const (.str [40])) 6)),(.d 8 (.bin .add 7 (.const (.str [41])))),(.d 4 (.mv 8))]) .ret) .skip)) (.seq (.ops [(.d 9 (.mv 0)),(.d 4 (.mv 9))]) .ret))))
def U2 :aM:=(.mk 1 5 [2] (.seq (.ops [(.d 1 (.box 175 0)),(.d 2 (.mv (.const (.str []))))]) (.seq (.ops [(.d 3 (.load (some 4) 1)),(.d 4 (.call 230 [3,(.const (.i 0))])),(.d 2 (.mv 4))]) .ret)))
end Go.Ag
/- Abstract codes, printed by a program of ours (acode.py) out of the given program's form. -/
namespace Go.Ag
open Go
def UW :aM:=(.mk 1 13 [(.cell 2 (some 3))] (.seq (.ops [(.d 2 (.alloc [(.i 0),(.i 0),(.str [])] 282))]) (.seq (.draw [(.d 3 (.mv 0)),(.d 4 (.aJ 3)),(.d 5 (.aB 0 4)),(.d 6 (.load none 5)),(.d 7 (.mv 0)),(.d 8 (.aJ 7)),(.d 9 (.aB 1 8)),(.d 10 (.load none 9)),(.d 11 (.aV 3 6 10)),(.d 12 (.load (some 3) 11))] [(.n (.store 3 2 12))]) .ret)))
def UE :aM:=(.mk 2 29 [] (.seq (.ops [(.d 6 (.mv 0)),(.d 7 (.call 218 [6])),(.d 4 (.alloc [(.i 0),(.i 0),(.str [])] 282)),(.n (.store 3 4 7))]) (.seq (.ops [(.d 8 (.aB 1 4)),(.d 9 (.load none 8)),(.d 10 (.mv 1)),(.d 11 (.build [(.i 0),(.i 0),(.str [])] [(0,(1,9)),(1,(1,10))])),(.d 5 (.alloc [(.i 0),(.i 0),(.str [])] 333)),(.n (.store 3 5 11))]) (.seq (.seq (.ops [(.d 12 (.mv 1)),(.d 13 (.bin .eql 12 (.const (.i 2))))]) (.cond 13 (.ops [(.d 14 (.aB 2 4)),(.d 15 (.load none 14)),(.d 16 (.aB 2 5)),(.n (.store 1 16 15))]) .skip)) (.seq (.draw [(.d 17 (.mv 0)),(.d 18 (.mv 0)),(.d 19 (.aJ 18)),(.d 20 (.aB 2 19)),(.d 21 (.load none 20)),(.d 22 (.load (some 3) 5)),(.d 23 (.lit 3 32 [] 1 [(0,22)]))] [(.d 24 (.append 3 32 333 21 23)),(.d 25 (.aJ 17)),(.d 26 (.aB 2 25)),(.n (.store 1 26 24))]) (.ops [(.d 27 (.build [] [])),(.d 28 (.mkI 301 27)),(.n (.panic 28))]))))))
def UC :aM:=(.mk 2 22 [4] (.seq (.ops [(.d 4 (.mv (.const (.bool false))))]) (.seq (.ops [(.d 6 (.mv 0)),(.d 7 (.call 218 [6])),(.d 5 (.alloc [(.i 0),(.i 0),(.str [])] 282)),(.n (.store 3 5 7))]) (.seq (.ops [(.d 8 (.aB 0 5)),(.d 9 (.load none 8)),(.d 10 (.bin .eql 9 (.const (.i 2)))),(.d 11 (.mv 10)),(.g 12 (.aB 0 5) 11 false),(.g 13 (.load none 12) 11 false),(.g 14 (.bin .eql 13 (.const (.i 5))) 11 false),(.d 15 (.pick 11 (.const (.bool true)) 14)),(.d 16 (.mv 15)),(.g 17 (.aB 2 5) 16 true),(.g 18 (.load none 17) 16 true),(.g 19 (.mv 1) 16 true),(.g 20 (.bin .eql 18 19) 16 true),(.d 21 (.pick 16 20 (.const (.bool false)))),(.d 4 (.mv 21))]) .ret))))
def UQ :aM:=(.mk 2 16 [4] (.seq (.ops [(.d 4 (.mv (.const (.bool false))))]) (.seq (.seq (.ops [(.d 5 (.mv 0)),(.d 6 (.mv 1)),(.d 7 (.call 250 [5,6])),(.d 8 (.un .not 7))]) (.cond 8 (.seq (.ops [(.d 4 (.mv (.const (.bool false))))]) .ret) .skip)) (.seq (.ops [(.d 9 (.mv 0)),(.d 10 (.aJ 9)),(.d 11 (.aB 1 10)),(.d 12 (.load none 11)),(.d 13 (.bin .add 12 (.const (.i 1)))),(.d 14 (.aJ 9)),(.d 15 (.aB 1 14)),(.n (.store 1 15 13))]) (.seq (.ops [(.d 4 (.mv (.const (.bool true))))]) .ret)))))
def Uz :aM:=(.mk 2 10 [] (.seq (.ops [(.d 4 (.mv 0)),(.d 5 (.mv 1)),(.d 6 (.call 221 [4,5])),(.d 7 (.un .not 6))]) (.cond 7 (.ops [(.d 8 (.mv 0)),(.d 9 (.call 248 [8,(.const (.i 2))]))]) .skip)))
def UA :aM:=(.mk 1 19 [(.cell 2 (some 3))] (.seq (.ops [(.d 2 (.alloc [(.i 0),(.i 0),(.str [])] 282))]) (.seq (.ops [(.d 4 (.mv 0)),(.d 5 (.call 218 [4])),(.d 3 (.alloc [(.i 0),(.i 0),(.str [])] 282)),(.n (.store 3 3 5))]) (.seq (.seq (.ops [(.d 6 (.aB 0 3)),(.d 7 (.load none 6)),(.d 8 (.bin .neq 7 (.const (.i 1))))]) (.cond 8 (.ops [(.d 9 (.mv 0)),(.d 10 (.call 248 [9,(.const (.i 2))]))]) .skip)) (.seq (.ops [(.d 11 (.mv 0)),(.d 12 (.aJ 11)),(.d 13 (.aB 1 12)),(.d 14 (.load none 13)),(.d 15 (.bin .add 14 (.const (.i 1)))),(.d 16 (.aJ 11)),(.d 17 (.aB 1 16)),(.n (.store 1 17 15))]) (.seq (.ops [(.d 18 (.load (some 3) 3)),(.n (.store 3 2 18))]) .ret))))))
def UU :aM:=(.mk 2 8 [] (.seq (.ops [(.d 4 (.mv 1)),(.d 5 (.bin .gtr 4 (.const (.i 64))))]) (.cond 5 (.ops [(.d 6 (.mv 0)),(.d 7 (.call 248 [6,(.const (.i 3))]))]) .skip)))
def U7 :aM:=(.mk 2 29 [(.cell 4 (some 4))] (.seq (.ops [(.d 4 (.alloc [(.i 0),(.str []),.nl,.nl] 175))]) (.seq (.ops [(.d 6 (.mv 0)),(.d 7 (.mv 1)),(.d 8 (.call 219 [6,7]))]) (.seq (.ops [(.d 9 (.mv 0)),(.d 10 (.mv 1)),(.d 11 (.call 220 [9,10])),(.d 12 (.lit 4 72 [] 1 [(0,11)])),(.d 5 (.mv 12))]) (.seq (.block 0 (.loop (.seq (.seq (.ops [(.d 13 (.mv 0)),(.d 14 (.call 221 [13,(.const (.str [124]))]))]) (.cond 14 .skip (.exit 0))) (.block 1 (.ops [(.d 15 (.mv 5)),(.d 16 (.mv 0)),(.d 17 (.mv 1)),(.d 18 (.call 220 [16,17])),(.d 19 (.lit 4 72 [] 1 [(0,18)])),(.d 20 (.append 4 72 175 15 19)),(.d 5 (.mv 20))]))))) (.seq (.seq (.ops [(.d 21 (.mv 5)),(.d 22 (.jo 21)),(.d 23 (.bin .eql 22 (.const (.i 1))))]) (.cond 23 (.seq (.ops [(.d 24 (.mv 5)),(.d 25 (.aV 4 24 (.const (.i 0)))),(.d 26 (.load (some 4) 25)),(.n (.store 4 4 26))]) .ret) .skip)) (.seq (.ops [(.d 27 (.mv 5)),(.d 28 (.build [(.i 0),(.str []),.nl,.nl] [(0,(1,(.const (.i 7)))),(3,(1,27))])),(.n (.store 4 4 28))]) .ret)))))))
def UR :aM:=(.mk 2 24 [(.cell 4 (some 4))] (.seq (.ops [(.d 4 (.alloc [(.i 0),(.str []),.nl,.nl] 175))]) (.seq (.ops [(.d 6 (.mv 0)),(.d 7 (.mv 1)),(.d 8 (.call 249 [6,7])),(.d 5 (.alloc [(.i 0),(.str []),.nl,.nl] 175)),(.n (.store 4 5 8))]) (.seq (.seq (.ops [(.d 9 (.mv 0)),(.d 10 (.call 221 [9,(.const (.str [45,62]))])),(.d 11 (.un .not 10))]) (.cond 11 (.seq (.ops [(.d 12 (.load (some 4) 5)),(.n (.store 4 4 12))]) .ret) .skip)) (.seq (.ops [(.d 13 (.mv 0)),(.d 14 (.mv 1)),(.d 15 (.bin .add 14 (.const (.i 1)))),(.d 16 (.call 219 [13,15]))]) (.seq (.iy [(.d 17 (.load (some 4) 5)),(.d 18 (.mv 0)),(.d 19 (.mv 1)),(.d 20 (.bin .add 19 (.const (.i 1))))] (.alt (.d 21 (.call 220 [18,20])) [((some 4),5)] (.alt (.d 22 (.lit 4 72 [] 2 [(0,17),(1,21)])) [] (.alt (.d 23 (.build [(.i 0),(.str []),.nl,.nl] [(0,(1,(.const (.i 6)))),(3,(1,22))])) [] (.alt (.n (.store 4 4 23)) [] .done .stop) .stop) .stop) .stop)) .ret))))))
def UD :aM:=(.mk 2 53 [(.cell 4 (some 4))] (.seq (.ops [(.d 4 (.alloc [(.i 0),(.str []),.nl,.nl] 175))]) (.seq (.seq (.ops [(.d 7 (.mv 0)),(.d 8 (.call 218 [7])),(.d 5 (.alloc [(.i 0),(.i 0),(.str [])] 282)),(.n (.store 3 5 8))]) (.seq (.ops [(.d 9 (.aB 0 5)),(.d 10 (.load none 9)),(.d 11 (.bin .eql 10 (.const (.i 1))))]) (.cond 11 (.seq (.ops [(.d 12 (.mv 0)),(.d 13 (.aJ 12)),(.d 14 (.aB 1 13)),(.d 15 (.load none 14)),(.d 16 (.bin .add 15 (.const (.i 1)))),(.d 17 (.aJ 12)),(.d 18 (.aB 1 17)),(.n (.store 1 18 16))]) (.seq (.ops [(.d 19 (.aB 2 5)),(.d 20 (.load none 19)),(.d 21 (.build [(.i 0),(.str []),.nl,.nl] [(0,(1,(.const (.i 8)))),(1,(1,20))])),(.n (.store 4 4 21))]) .ret)) .skip))) (.seq (.block 0 (.seq (.ops [(.d 23 (.mv 0)),(.d 24 (.call 221 [23,(.const (.str [105,110,116]))])),(.d 22 (.mv 24))]) (.cond 22 (.seq (.ops [(.d 25 (.build [(.i 0),(.str []),.nl,.nl] [(0,(1,(.const (.i 1))))])),(.n (.store 4 4 25))]) .ret) (.seq (.ops [(.d 27 (.mv 0)),(.d 28 (.call 221 [27,(.const (.str [98,111,111,108]))])),(.d 26 (.mv 28))]) (.cond 26 (.seq (.ops [(.d 29 (.build [(.i 0),(.str []),.nl,.nl] [(0,(1,(.const (.i 2))))])),(.n (.store 4 4 29))]) .ret) (.seq (.ops [(.d 31 (.mv 0)),(.d 32 (.call 221 [31,(.const (.str [116,101,120,116]))])),(.d 30 (.mv 32))]) (.cond 30 (.seq (.ops [(.d 33 (.build [(.i 0),(.str []),.nl,.nl] [(0,(1,(.const (.i 3))))])),(.n (.store 4 4 33))]) .ret) (.seq (.ops [(.d 35 (.mv 0)),(.d 36 (.call 221 [35,(.const (.str [63]))])),(.d 34 (.mv 36))]) (.cond 34 (.seq (.ops [(.d 37 (.build [(.i 0),(.str []),.nl,.nl] [(0,(1,(.const (.i 4))))])),(.n (.store 4 4 37))]) .ret) (.seq (.ops [(.d 39 (.mv 0)),(.d 40 (.call 221 [39,(.const (.str [123]))])),(.d 38 (.mv 40))]) (.cond 38 (.seq (.ops [(.d 41 (.mv 0)),(.d 42 (.mv 1)),(.d 43 (.call 293 [41,42])),(.n (.store 4 4 43))]) .ret) .skip))))))))))) (.seq (.ops [(.d 44 (.mv 0)),(.d 45 (.call 260 [44,(.const (.str [40]))]))]) (.seq (.ops [(.d 46 (.mv 0)),(.d 47 (.mv 1)),(.d 48 (.bin .add 47 (.const (.i 1)))),(.d 49 (.call 184 [46,48])),(.d 6 (.alloc [(.i 0),(.str []),.nl,.nl] 175)),(.n (.store 4 6 49))]) (.seq (.ops [(.d 50 (.mv 0)),(.d 51 (.call 260 [50,(.const (.str [41]))]))]) (.seq (.ops [(.d 52 (.load (some 4) 6)),(.n (.store 4 4 52))]) .ret))))))))
def Uq :aM:=(.mk 2 34 [(.cell 4 (some 4))] (.seq (.ops [(.d 2 (.box 225 0)),(.d 3 (.box 4 1)),(.d 4 (.alloc [(.i 0),(.str []),.nl,.nl] 175))]) (.seq (.ops [(.d 5 (.alloc [.nl] 43))]) (.seq (.ops [(.d 10 .mkMap),(.d 6 (.alloc [.gW] 231)),(.n (.store 1 6 10))]) (.seq (.ops [(.d 11 (.load none 2)),(.d 12 (.mkF (.func 307) [] [2,3,5,6])),(.d 13 (.call 306 [11,(.const (.str [58])),12]))]) (.seq (.ops [(.d 14 (.load none 5)),(.d 15 (.call 200 [14]))]) (.seq (.ops [(.d 16 (.load none 5)),(.d 17 (.build [(.i 0),(.str []),.nl,.nl] [(0,(1,(.const (.i 5)))),(2,(1,16))])),(.d 7 (.alloc [(.i 0),(.str []),.nl,.nl] 175)),(.n (.store 4 7 17))]) (.seq (.seq (.ops [(.d 18 (.load none 5)),(.d 19 (.jo 18)),(.d 20 (.mv (.const (.i 0))))]) (.block 0 (.loop (.seq (.ops [(.d 21 (.bin .lss 20 19))]) (.seq (.cond 21 .skip (.exit 0)) (.seq (.block 1 (.seq (.ops [(.d 22 (.aV 1 18 20)),(.d 23 (.load none 22)),(.d 9 (.mv 23))]) (.ops [(.d 24 (.aB 3 7)),(.d 25 (.load none 24)),(.d 26 (.load none 6)),(.d 27 (.mv 9)),(.d 28 (.look 1 (.agg [(.i 0),(.str []),.nl,.nl]) false 26 27)),(.d 29 (.lit 4 72 [] 1 [(0,28)])),(.d 30 (.append 4 72 175 25 29)),(.d 31 (.aB 3 7)),(.n (.store 1 31 30))]))) (.ops [(.d 32 (.bin .add 20 (.const (.i 1)))),(.d 20 (.mv 32))]))))))) (.seq (.ops [(.d 33 (.load (some 4) 7)),(.n (.store 4 4 33))]) .ret)))))))))
def Um :aM:=(.mk 5 20 [] (.seq (.ops [(.d 7 (.load none 1)),(.d 8 (.load none 2)),(.d 9 (.bin .add 8 (.const (.i 1)))),(.d 10 (.call 184 [7,9])),(.d 6 (.alloc [(.i 0),(.str []),.nl,.nl] 175)),(.n (.store 4 6 10))]) (.seq (.ops [(.d 11 (.mv 0)),(.d 12 (.bin .neq 11 (.const (.str []))))]) (.cond 12 (.seq (.ops [(.d 13 (.load none 3)),(.d 14 (.mv 0)),(.d 15 (.lit 1 16 [] 1 [(0,14)])),(.d 16 (.append 1 16 10 13 15)),(.n (.store 1 3 16))]) (.ops [(.d 17 (.load none 4)),(.d 18 (.mv 0)),(.d 19 (.load (some 4) 6)),(.n (.ug 1 17 18 19))])) .skip))))
def Un :aM:=(.mk 3 57 [] (.seq (.ops [(.d 6 (.mv (.const .nl)))]) (.seq (.seq (.ops [(.d 7 (.mv (.const (.bool true))))]) (.block 0 (.loop (.seq (.seq (.ops [(.d 9 (.mv 0)),(.d 10 (.call 250 [9,(.const (.str [125]))])),(.d 11 (.un .not 10))]) (.cond 11 .skip (.exit 0))) (.seq (.block 1 (.seq (.seq (.ops [(.d 12 (.mv 7)),(.d 13 (.un .not 12))]) (.cond 13 (.ops [(.d 14 (.mv 0)),(.d 15 (.call 260 [14,(.const (.str [44]))]))]) .skip)) (.seq (.ops [(.d 16 (.mv 0)),(.d 17 (.call 259 [16])),(.d 8 (.alloc [(.i 0),(.i 0),(.str [])] 282)),(.n (.store 3 8 17))]) (.seq (.ops [(.d 18 (.mv 0)),(.d 19 (.mv 1)),(.d 20 (.call 260 [18,19]))]) (.seq (.seq (.ops [(.d 21 (.mv 6)),(.d 22 (.aB 2 8)),(.d 23 (.load none 22)),(.d 24 (.call 318 [21,23]))]) (.cond 24 (.seq (.draw [(.d 25 (.mv 0)),(.d 26 (.mv 0)),(.d 27 (.aJ 26)),(.d 28 (.aB 2 27)),(.d 29 (.load none 28)),(.d 30 (.aB 1 8)),(.d 31 (.load none 30)),(.d 32 (.aB 2 8)),(.d 33 (.load none 32)),(.d 34 (.build [(.i 0),(.i 0),(.str [])] [(0,(1,31)),(1,(1,(.const (.i 4)))),(2,(1,33))])),(.d 35 (.lit 3 32 [] 1 [(0,34)]))] [(.d 36 (.append 3 32 333 29 35)),(.d 37 (.aJ 25)),(.d 38 (.aB 2 37)),(.n (.store 1 38 36))]) (.seq (.ops [(.d 39 (.mv 2)),(.d 40 (.fJ 39 [(.const (.str []))]))]) (.exit 1))) .skip)) (.seq (.ops [(.d 41 (.mv 6)),(.d 42 (.aB 2 8)),(.d 43 (.load none 42)),(.d 44 (.lit 1 16 [] 1 [(0,43)])),(.d 45 (.append 1 16 10 41 44)),(.d 6 (.mv 45))]) (.ops [(.d 46 (.mv 2)),(.d 47 (.aB 2 8)),(.d 48 (.load none 47)),(.d 49 (.fJ 46 [48]))]))))))) (.ops [(.d 7 (.mv (.const (.bool false))))])))))) (.ops [(.d 50 (.mv 0)),(.d 51 (.aJ 50)),(.d 52 (.aB 1 51)),(.d 53 (.load none 52)),(.d 54 (.bin .add 53 (.const (.i 1)))),(.d 55 (.aJ 50)),(.d 56 (.aB 1 55)),(.n (.store 1 56 54))]))))
def U9 :aM:=(.mk 2 35 [4] (.seq (.ops [(.d 3 (.box 227 1)),(.d 4 (.mv (.const (.bool false))))]) (.seq (.ops [(.d 10 (.mv 0)),(.d 11 (.call 215 [10])),(.d 9 (.mv 11)),(.d 12 (.ext 9 0)),(.d 13 (.ext 9 1)),(.d 5 (.mv 12)),(.d 6 (.mv 13))]) (.seq (.ops [(.d 14 (.mv 5)),(.d 15 (.mv 6)),(.d 16 (.build [.nl,(.i 0),.nl] [(0,(1,14)),(2,(1,15))])),(.d 17 (.box 280 16)),(.d 7 (.alloc [.eD] 225)),(.n (.store 1 7 17))]) (.seq (.ops [(.d 18 (.mkF (.func 217) [] [3,7])),(.d 19 (.call 216 [18])),(.d 8 (.mv 19))]) (.seq (.ops [(.d 20 (.mv 8)),(.d 21 (.mv 20)),(.g 22 (.load none 7) 21 true),(.g 23 (.call 218 [22]) 21 true),(.g 24 (.fld 0 none 23) 21 true),(.g 25 (.bin .eql 24 (.const (.i 6))) 21 true),(.d 26 (.pick 21 25 (.const (.bool false)))),(.d 27 (.mv 26)),(.g 28 (.load none 7) 27 true),(.g 29 (.aJ 28) 27 true),(.g 30 (.aB 2 29) 27 true),(.g 31 (.load none 30) 27 true),(.g 32 (.jo 31) 27 true),(.g 33 (.bin .eql 32 (.const (.i 0))) 27 true),(.d 34 (.pick 27 33 (.const (.bool false)))),(.d 4 (.mv 34))]) .ret))))))
def UY :aM:=(.mk 2 5 [] (.ops [(.d 2 (.load none 0)),(.d 3 (.load none 1)),(.d 4 (.fJ 2 [3]))]))
def Vn :aM:=(.mk 1 11 [(.cell 2 (some 4)),3] (.seq (.ops [(.d 2 (.alloc [(.i 0),(.str []),.nl,.nl] 175)),(.d 3 (.mv (.const (.bool false))))]) (.seq (.ops [(.d 4 (.alloc [(.i 0),(.str []),.nl,.nl] 175))]) (.seq (.seq (.ops [(.d 5 (.mv 0)),(.d 6 (.mkF (.func 183) [] [4])),(.d 7 (.call 182 [5,6])),(.d 8 (.un .not 7))]) (.cond 8 (.seq (.ops [(.d 9 (.build [(.i 0),(.str []),.nl,.nl] [])),(.n (.store 4 2 9)),(.d 3 (.mv (.const (.bool false))))]) .ret) .skip)) (.seq (.ops [(.d 10 (.load (some 4) 4)),(.n (.store 4 2 10)),(.d 3 (.mv (.const (.bool true))))]) .ret)))))
def U8 :aM:=(.mk 2 5 [] (.ops [(.d 3 (.mv 0)),(.d 4 (.call 184 [3,(.const (.i 1))])),(.n (.store 4 1 4))]))
def Gu :aM:=(.mk 2 9 [4] (.seq (.ops [(.d 4 (.mv (.const (.bool false))))]) (.seq (.ops [(.d 5 (.mv 0)),(.d 6 (.mv 1)),(.d 7 (.call 28 [5,6])),(.d 8 (.bin .geq 7 (.const (.i 0)))),(.d 4 (.mv 8))]) .ret)))
def NC :aM:=(.mk 2 19 [4] (.seq (.ops [(.d 4 (.mv (.const (.i 0))))]) (.seq (.seq (.ops [(.d 6 (.mv 0)),(.d 7 (.jo 6)),(.d 8 (.mv (.const (.i 0))))]) (.block 0 (.loop (.seq (.ops [(.d 9 (.bin .lss 8 7))]) (.seq (.cond 9 .skip (.exit 0)) (.seq (.block 1 (.seq (.ops [(.d 10 (.mv 8)),(.d 5 (.mv 10))]) (.seq (.ops [(.d 11 (.mv 1)),(.d 12 (.mv 0)),(.d 13 (.mv 5)),(.d 14 (.aV 1 12 13)),(.d 15 (.load none 14)),(.d 16 (.bin .eql 11 15))]) (.cond 16 (.seq (.ops [(.d 17 (.mv 5)),(.d 4 (.mv 17))]) .ret) .skip)))) (.ops [(.d 18 (.bin .add 8 (.const (.i 1)))),(.d 8 (.mv 18))]))))))) (.seq (.ops [(.d 4 (.mv (.const (.i (-1)))))]) .ret))))
end Go.Ag
/- Abstract codes, printed by a program of ours (acode.py) out of the given program's form. -/
namespace Go.Ag
open Go
def Le :aM:=(.mk 2 17 [4] (.seq (.ops [(.d 4 (.mv (.const (.bool false))))]) (.seq (.seq (.ops [(.d 5 (.mv (.const (.i 0))))]) (.block 0 (.loop (.seq (.seq (.ops [(.d 6 (.mv 5)),(.d 7 (.mv 1)),(.d 8 (.qx 7)),(.d 9 (.bin .lss 6 8))]) (.cond 9 .skip (.exit 0))) (.seq (.block 1 (.seq (.ops [(.d 12 (.mv 1)),(.d 13 (.mv 5)),(.d 14 (.zf 12 13)),(.d 15 (.mv 0)),(.d 16 (.bin .eql 14 15))]) (.cond 16 (.seq (.ops [(.d 4 (.mv (.const (.bool true))))]) .ret) .skip))) (.ops [(.d 10 (.mv 5)),(.d 11 (.bin .add 10 (.const (.i 1)))),(.d 5 (.mv 11))])))))) (.seq (.ops [(.d 4 (.mv (.const (.bool false))))]) .ret))))
def Rp :aM:=(.mk 3 21 [6] (.seq (.ops [(.d 6 (.mv (.const (.i 0))))]) (.seq (.block 0 (.loop (.seq (.seq (.ops [(.d 7 (.mv 1)),(.d 8 (.mv 0)),(.d 9 (.qx 8)),(.d 10 (.bin .lss 7 9)),(.d 11 (.mv 10)),(.g 12 (.mv 0) 11 true),(.g 13 (.mv 1) 11 true),(.g 14 (.zf 12 13) 11 true),(.g 15 (.mv 2) 11 true),(.g 16 (.call 79 [14,15]) 11 true),(.d 17 (.pick 11 16 (.const (.bool false))))]) (.cond 17 .skip (.exit 0))) (.block 1 (.ops [(.d 18 (.mv 1)),(.d 19 (.bin .add 18 (.const (.i 1)))),(.d 1 (.mv 19))]))))) (.seq (.ops [(.d 20 (.mv 1)),(.d 6 (.mv 20))]) .ret))))
def Rq :aM:=(.mk 3 22 [6] (.seq (.ops [(.d 6 (.mv (.const (.i 0))))]) (.seq (.block 0 (.loop (.seq (.seq (.ops [(.d 7 (.mv 1)),(.d 8 (.mv 0)),(.d 9 (.qx 8)),(.d 10 (.bin .lss 7 9)),(.d 11 (.mv 10)),(.g 12 (.mv 0) 11 true),(.g 13 (.mv 1) 11 true),(.g 14 (.zf 12 13) 11 true),(.g 15 (.mv 2) 11 true),(.g 16 (.call 79 [14,15]) 11 true),(.g 17 (.un .not 16) 11 true),(.d 18 (.pick 11 17 (.const (.bool false))))]) (.cond 18 .skip (.exit 0))) (.block 1 (.ops [(.d 19 (.mv 1)),(.d 20 (.bin .add 19 (.const (.i 1)))),(.d 1 (.mv 20))]))))) (.seq (.ops [(.d 21 (.mv 1)),(.d 6 (.mv 21))]) .ret))))
def Ro :aM:=(.mk 1 18 [2] (.seq (.ops [(.d 2 (.mv (.const (.bool false))))]) (.seq (.ops [(.d 5 (.lit 1 16 [] 13 [(0,(.const (.str [117,115,101]))),(1,(.const (.str [116,121,112,101]))),(2,(.const (.str [108,101,116]))),(3,(.const (.str [105,110]))),(4,(.const (.str [105,102]))),(5,(.const (.str [116,104,101,110]))),(6,(.const (.str [101,108,115,101]))),(7,(.const (.str [102,117,110]))),(8,(.const (.str [116,114,117,101]))),(9,(.const (.str [102,97,108,115,101]))),(10,(.const (.str [105,110,116]))),(11,(.const (.str [98,111,111,108]))),(12,(.const (.str [116,101,120,116])))])),(.d 3 (.mv 5))]) (.seq (.seq (.ops [(.d 4 (.mv (.const (.i 0))))]) (.block 0 (.loop (.seq (.seq (.ops [(.d 6 (.mv 4)),(.d 7 (.mv 3)),(.d 8 (.jo 7)),(.d 9 (.bin .lss 6 8))]) (.cond 9 .skip (.exit 0))) (.seq (.block 1 (.seq (.ops [(.d 12 (.mv 3)),(.d 13 (.mv 4)),(.d 14 (.aV 1 12 13)),(.d 15 (.load none 14)),(.d 16 (.mv 0)),(.d 17 (.bin .eql 15 16))]) (.cond 17 (.seq (.ops [(.d 2 (.mv (.const (.bool true))))]) .ret) .skip))) (.ops [(.d 10 (.mv 4)),(.d 11 (.bin .add 10 (.const (.i 1)))),(.d 4 (.mv 11))])))))) (.seq (.ops [(.d 2 (.mv (.const (.bool false))))]) .ret)))))
def Uj :aM:=(.mk 1 151 [2,3] (.seq (.ops [(.d 2 (.mv (.const .nl))),(.d 3 (.mv (.const .nl)))]) (.seq (.ops [(.d 4 (.mv (.const .nl)))]) (.seq (.ops [(.d 5 (.mv (.const .nl)))]) (.seq (.ops [(.d 6 (.mv (.const (.i 0))))]) (.seq (.block 0 (.loop (.seq (.seq (.ops [(.d 11 (.mv 6)),(.d 12 (.mv 0)),(.d 13 (.qx 12)),(.d 14 (.bin .lss 11 13))]) (.cond 14 .skip (.exit 0))) (.block 1 (.seq (.ops [(.d 15 (.mv 0)),(.d 16 (.mv 6)),(.d 17 (.zf 15 16)),(.d 7 (.mv 17))]) (.seq (.ops [(.d 18 (.mv 6)),(.d 19 (.bin .add 18 (.const (.i 1)))),(.d 8 (.mv 19))]) (.seq (.seq (.ops [(.d 20 (.mv 7)),(.d 21 (.call 79 [20,(.const (.str [32,9,10,13]))]))]) (.cond 21 (.seq (.ops [(.d 22 (.mv 6)),(.d 23 (.bin .add 22 (.const (.i 1)))),(.d 6 (.mv 23))]) (.exit 1)) .skip)) (.seq (.seq (.ops [(.d 24 (.mv 7)),(.d 25 (.bin .eql 24 (.const (.int .u8 35))))]) (.cond 25 (.seq (.ops [(.d 26 (.mv 0)),(.d 27 (.mv 6)),(.d 28 (.call 80 [26,27,(.const (.str [10]))])),(.d 6 (.mv 28))]) (.exit 1)) .skip)) (.seq (.seq (.ops [(.d 29 (.mv 7)),(.d 30 (.call 79 [29,(.const (.str [97,98,99,100,101,102,103,104,105,106,107,108,109,110,111,112,113,114,115,116,117,118,119,120,121,122,95]))]))]) (.cond 30 (.seq (.ops [(.d 31 (.mv 0)),(.d 32 (.mv 6)),(.d 33 (.call 81 [31,32,(.const (.str [97,98,99,100,101,102,103,104,105,106,107,108,109,110,111,112,113,114,115,116,117,118,119,120,121,122,95,48,49,50,51,52,53,54,55,56,57]))])),(.d 8 (.mv 33))]) (.seq (.ops [(.d 9 (.mv (.const (.i 1))))]) (.seq (.seq (.ops [(.d 34 (.mv 0)),(.d 35 (.mv 6)),(.d 36 (.mv 8)),(.d 37 (.wW 34 (some 35) (some 36))),(.d 38 (.call 82 [37]))]) (.cond 38 (.ops [(.d 9 (.mv (.const (.i 2))))]) .skip)) (.ops [(.d 39 (.mv 4)),(.d 40 (.mv 9)),(.d 41 (.mv 6)),(.d 42 (.mv 0)),(.d 43 (.mv 6)),(.d 44 (.mv 8)),(.d 45 (.wW 42 (some 43) (some 44))),(.d 46 (.build [(.i 0),(.i 0),(.str [])] [(0,(1,40)),(1,(1,41)),(2,(1,45))])),(.d 47 (.lit 3 32 [] 1 [(0,46)])),(.d 48 (.append 3 32 86 39 47)),(.d 4 (.mv 48))])))) (.seq (.ops [(.d 49 (.mv 7)),(.d 50 (.call 79 [49,(.const (.str [48,49,50,51,52,53,54,55,56,57]))]))]) (.cond 50 (.seq (.ops [(.d 51 (.mv 0)),(.d 52 (.mv 6)),(.d 53 (.call 81 [51,52,(.const (.str [48,49,50,51,52,53,54,55,56,57]))])),(.d 8 (.mv 53))]) (.seq (.ops [(.d 54 (.mv 0)),(.d 55 (.mv 6)),(.d 56 (.mv 8)),(.d 57 (.wW 54 (some 55) (some 56))),(.d 10 (.mv 57))]) (.seq (.seq (.ops [(.d 58 (.mv 8)),(.d 59 (.mv 6)),(.d 60 (.bin .sub 58 59)),(.d 61 (.bin .gtr 60 (.const (.i 18))))]) (.cond 61 (.seq (.ops [(.d 62 (.mv 5)),(.d 63 (.mv 6)),(.d 64 (.build [(.i 0),(.i 0),(.str [])] [(0,(1,63)),(1,(1,(.const (.i 13))))])),(.d 65 (.lit 3 32 [] 1 [(0,64)])),(.d 66 (.append 3 32 127 62 65)),(.d 5 (.mv 66))]) (.ops [(.d 10 (.mv (.const (.str [48]))))])) .skip)) (.ops [(.d 67 (.mv 4)),(.d 68 (.mv 6)),(.d 69 (.mv 10)),(.d 70 (.build [(.i 0),(.i 0),(.str [])] [(0,(1,(.const (.i 3)))),(1,(1,68)),(2,(1,69))])),(.d 71 (.lit 3 32 [] 1 [(0,70)])),(.d 72 (.append 3 32 86 67 71)),(.d 4 (.mv 72))])))) (.seq (.ops [(.d 73 (.mv 7)),(.d 74 (.bin .eql 73 (.const (.int .u8 34))))]) (.cond 74 (.seq (.ops [(.d 75 (.mv 0)),(.d 76 (.mv 6)),(.d 77 (.bin .add 76 (.const (.i 1)))),(.d 78 (.call 80 [75,77,(.const (.str [34,10]))])),(.d 8 (.mv 78))]) (.seq (.ops [(.d 79 (.mv 8)),(.d 80 (.mv 0)),(.d 81 (.qx 80)),(.d 82 (.bin .lss 79 81)),(.d 83 (.mv 82)),(.g 84 (.mv 0) 83 true),(.g 85 (.mv 8) 83 true),(.g 86 (.zf 84 85) 83 true),(.g 87 (.bin .eql 86 (.const (.int .u8 34))) 83 true),(.d 88 (.pick 83 87 (.const (.bool false))))]) (.cond 88 (.seq (.ops [(.d 89 (.mv 4)),(.d 90 (.mv 6)),(.d 91 (.mv 0)),(.d 92 (.mv 6)),(.d 93 (.bin .add 92 (.const (.i 1)))),(.d 94 (.mv 8)),(.d 95 (.wW 91 (some 93) (some 94))),(.d 96 (.build [(.i 0),(.i 0),(.str [])] [(0,(1,(.const (.i 4)))),(1,(1,90)),(2,(1,95))])),(.d 97 (.lit 3 32 [] 1 [(0,96)])),(.d 98 (.append 3 32 86 89 97)),(.d 4 (.mv 98))]) (.ops [(.d 99 (.mv 8)),(.d 100 (.bin .add 99 (.const (.i 1)))),(.d 8 (.mv 100))])) (.ops [(.d 101 (.mv 5)),(.d 102 (.mv 6)),(.d 103 (.build [(.i 0),(.i 0),(.str [])] [(0,(1,102)),(1,(1,(.const (.i 1))))])),(.d 104 (.lit 3 32 [] 1 [(0,103)])),(.d 105 (.append 3 32 127 101 104)),(.d 5 (.mv 105))])))) (.seq (.ops [(.d 106 (.mv 7)),(.d 107 (.bin .eql 106 (.const (.int .u8 45)))),(.d 108 (.mv 107)),(.g 109 (.mv 8) 108 true),(.g 110 (.mv 0) 108 true),(.g 111 (.qx 110) 108 true),(.g 112 (.bin .lss 109 111) 108 true),(.d 113 (.pick 108 112 (.const (.bool false)))),(.d 114 (.mv 113)),(.g 115 (.mv 0) 114 true),(.g 116 (.mv 8) 114 true),(.g 117 (.zf 115 116) 114 true),(.g 118 (.bin .eql 117 (.const (.int .u8 62))) 114 true),(.d 119 (.pick 114 118 (.const (.bool false))))]) (.cond 119 (.seq (.ops [(.d 120 (.mv 8)),(.d 121 (.bin .add 120 (.const (.i 1)))),(.d 8 (.mv 121))]) (.ops [(.d 122 (.mv 4)),(.d 123 (.mv 6)),(.d 124 (.build [(.i 0),(.i 0),(.str [])] [(0,(1,(.const (.i 5)))),(1,(1,123)),(2,(1,(.const (.str [45,62]))))])),(.d 125 (.lit 3 32 [] 1 [(0,124)])),(.d 126 (.append 3 32 86 122 125)),(.d 4 (.mv 126))])) (.seq (.ops [(.d 127 (.mv 7)),(.d 128 (.call 79 [127,(.const (.str [61,58,59,44,46,40,41,123,125,124,63]))]))]) (.cond 128 (.ops [(.d 129 (.mv 4)),(.d 130 (.mv 6)),(.d 131 (.mv 0)),(.d 132 (.mv 6)),(.d 133 (.mv 8)),(.d 134 (.wW 131 (some 132) (some 133))),(.d 135 (.build [(.i 0),(.i 0),(.str [])] [(0,(1,(.const (.i 5)))),(1,(1,130)),(2,(1,134))])),(.d 136 (.lit 3 32 [] 1 [(0,135)])),(.d 137 (.append 3 32 86 129 136)),(.d 4 (.mv 137))]) (.ops [(.d 138 (.mv 5)),(.d 139 (.mv 6)),(.d 140 (.build [(.i 0),(.i 0),(.str [])] [(0,(1,139)),(1,(1,(.const (.i 1))))])),(.d 141 (.lit 3 32 [] 1 [(0,140)])),(.d 142 (.append 3 32 127 138 141)),(.d 5 (.mv 142))]))))))))))) (.ops [(.d 143 (.mv 8)),(.d 6 (.mv 143))])))))))))) (.seq (.ops [(.d 144 (.mv 4)),(.d 145 (.mv 0)),(.d 146 (.qx 145)),(.d 147 (.build [(.i 0),(.i 0),(.str [])] [(0,(1,(.const (.i 6)))),(1,(1,146)),(2,(1,(.const (.str []))))])),(.d 148 (.lit 3 32 [] 1 [(0,147)])),(.d 149 (.append 3 32 86 144 148)),(.d 150 (.mv 5)),(.d 2 (.mv 149)),(.d 3 (.mv 150))]) .ret)))))))
def Yn :aM:=(.mk 1 13 [(.cell 2 (some 4))] (.seq (.ops [(.d 2 (.alloc [.nl,(.i 0),.nl,(.bool false)] 83))]) (.seq (.ops [(.d 6 (.mv 0)),(.d 7 (.call 58 [6])),(.d 5 (.mv 7)),(.d 8 (.ext 5 0)),(.d 9 (.ext 5 1)),(.d 3 (.mv 8)),(.d 4 (.mv 9))]) (.seq (.ops [(.d 10 (.mv 3)),(.d 11 (.mv 4)),(.d 12 (.build [.nl,(.i 0),.nl,(.bool false)] [(0,(1,10)),(2,(1,11))])),(.n (.store 4 2 12))]) .ret))))
def Yl :aM:=(.mk 2 42 [] (.seq (.seq (.ops [(.d 6 (.mv 0)),(.d 7 (.aJ 6)),(.d 8 (.aB 3 7)),(.d 9 (.load none 8))]) (.cond 9 .ret .skip)) (.seq (.draw [(.d 10 (.mv 0)),(.d 11 (.aJ 10)),(.d 12 (.aB 0 11)),(.d 13 (.load none 12)),(.d 14 (.mv 0)),(.d 15 (.aJ 14)),(.d 16 (.aB 1 15)),(.d 17 (.load none 16)),(.d 18 (.aV 3 13 17)),(.d 19 (.load (some 3) 18)),(.d 4 (.alloc [(.i 0),(.i 0),(.str [])] 86))] [(.n (.store 3 4 19))]) (.seq (.ops [(.d 20 (.aB 1 4)),(.d 21 (.load none 20)),(.d 22 (.mv 1)),(.d 23 (.build [(.i 0),(.i 0),(.str [])] [(0,(1,21)),(1,(1,22))])),(.d 5 (.alloc [(.i 0),(.i 0),(.str [])] 127)),(.n (.store 3 5 23))]) (.seq (.seq (.ops [(.d 24 (.mv 1)),(.d 25 (.bin .eql 24 (.const (.i 2))))]) (.cond 25 (.ops [(.d 26 (.aB 2 4)),(.d 27 (.load none 26)),(.d 28 (.aB 2 5)),(.n (.store 1 28 27))]) .skip)) (.seq (.draw [(.d 29 (.mv 0)),(.d 30 (.mv 0)),(.d 31 (.aJ 30)),(.d 32 (.aB 2 31)),(.d 33 (.load none 32)),(.d 34 (.load (some 3) 5)),(.d 35 (.lit 3 32 [] 1 [(0,34)]))] [(.d 36 (.append 3 32 127 33 35)),(.d 37 (.aJ 29)),(.d 38 (.aB 2 37)),(.n (.store 1 38 36))]) (.ops [(.d 39 (.mv 0)),(.d 40 (.aJ 39)),(.d 41 (.aB 3 40)),(.n (.store 1 41 (.const (.bool true))))])))))))
def Ym :aM:=(.mk 2 37 [4] (.seq (.ops [(.d 4 (.mv (.const (.bool false))))]) (.seq (.draw [(.d 6 (.mv 0)),(.d 7 (.aJ 6)),(.d 8 (.aB 0 7)),(.d 9 (.load none 8)),(.d 10 (.mv 0)),(.d 11 (.aJ 10)),(.d 12 (.aB 1 11)),(.d 13 (.load none 12)),(.d 14 (.aV 3 9 13)),(.d 15 (.load (some 3) 14)),(.d 5 (.alloc [(.i 0),(.i 0),(.str [])] 86))] [(.n (.store 3 5 15))]) (.seq (.ops [(.d 16 (.mv 0)),(.d 17 (.aJ 16)),(.d 18 (.aB 3 17)),(.d 19 (.load none 18)),(.d 20 (.un .not 19)),(.d 21 (.mv 20)),(.g 22 (.aB 0 5) 21 true),(.g 23 (.load none 22) 21 true),(.g 24 (.bin .eql 23 (.const (.i 2))) 21 true),(.g 25 (.mv 24) 21 true),(.g 26 (.aB 0 5) 25 false),(.g 27 (.load none 26) 25 false),(.g 28 (.bin .eql 27 (.const (.i 5))) 25 false),(.g 29 (.pick 25 (.const (.bool true)) 28) 21 true),(.d 30 (.pick 21 29 (.const (.bool false)))),(.d 31 (.mv 30)),(.g 32 (.aB 2 5) 31 true),(.g 33 (.load none 32) 31 true),(.g 34 (.mv 1) 31 true),(.g 35 (.bin .eql 33 34) 31 true),(.d 36 (.pick 31 35 (.const (.bool false)))),(.d 4 (.mv 36))]) .ret))))
def ZH :aM:=(.mk 2 16 [] (.seq (.seq (.ops [(.d 4 (.mv 0)),(.d 5 (.mv 1)),(.d 6 (.call 41 [4,5]))]) (.cond 6 (.seq (.ops [(.d 7 (.mv 0)),(.d 8 (.aJ 7)),(.d 9 (.aB 1 8)),(.d 10 (.load none 9)),(.d 11 (.bin .add 10 (.const (.i 1)))),(.d 12 (.aJ 7)),(.d 13 (.aB 1 12)),(.n (.store 1 13 11))]) .ret) .skip)) (.ops [(.d 14 (.mv 0)),(.d 15 (.call 60 [14,(.const (.i 2))]))])))
def ZG :aM:=(.mk 1 33 [(.cell 2 (some 3))] (.seq (.ops [(.d 2 (.alloc [(.i 0),(.i 0),(.str [])] 86))]) (.seq (.draw [(.d 4 (.mv 0)),(.d 5 (.aJ 4)),(.d 6 (.aB 0 5)),(.d 7 (.load none 6)),(.d 8 (.mv 0)),(.d 9 (.aJ 8)),(.d 10 (.aB 1 9)),(.d 11 (.load none 10)),(.d 12 (.aV 3 7 11)),(.d 13 (.load (some 3) 12)),(.d 3 (.alloc [(.i 0),(.i 0),(.str [])] 86))] [(.n (.store 3 3 13))]) (.seq (.seq (.ops [(.d 14 (.mv 0)),(.d 15 (.aJ 14)),(.d 16 (.aB 3 15)),(.d 17 (.load none 16))]) (.cond 17 (.seq (.ops [(.d 18 (.build [(.i 0),(.i 0),(.str [])] [])),(.n (.store 3 2 18))]) .ret) .skip)) (.seq (.seq (.ops [(.d 19 (.aB 0 3)),(.d 20 (.load none 19)),(.d 21 (.bin .neq 20 (.const (.i 1))))]) (.cond 21 (.seq (.ops [(.d 22 (.mv 0)),(.d 23 (.call 60 [22,(.const (.i 2))]))]) (.seq (.ops [(.d 24 (.build [(.i 0),(.i 0),(.str [])] [])),(.n (.store 3 2 24))]) .ret)) .skip)) (.seq (.ops [(.d 25 (.mv 0)),(.d 26 (.aJ 25)),(.d 27 (.aB 1 26)),(.d 28 (.load none 27)),(.d 29 (.bin .add 28 (.const (.i 1)))),(.d 30 (.aJ 25)),(.d 31 (.aB 1 30)),(.n (.store 1 31 29))]) (.seq (.ops [(.d 32 (.load (some 3) 3)),(.n (.store 3 2 32))]) .ret)))))))
def ZF :aM:=(.mk 2 39 [(.cell 4 (some 4))] (.seq (.ops [(.d 4 (.alloc [(.i 0),(.str []),.nl,.nl] 109))]) (.seq (.seq (.ops [(.d 7 (.mv 1)),(.d 8 (.bin .gtr 7 (.const (.i 64))))]) (.cond 8 (.ops [(.d 9 (.mv 0)),(.d 10 (.call 60 [9,(.const (.i 3))]))]) .skip)) (.seq (.seq (.ops [(.d 11 (.mv 0)),(.d 12 (.aJ 11)),(.d 13 (.aB 3 12)),(.d 14 (.load none 13))]) (.cond 14 (.seq (.ops [(.d 15 (.build [(.i 0),(.str []),.nl,.nl] [])),(.n (.store 4 4 15))]) .ret) .skip)) (.seq (.ops [(.d 16 (.mv 0)),(.d 17 (.mv 1)),(.d 18 (.call 83 [16,17])),(.d 5 (.alloc [(.i 0),(.str []),.nl,.nl] 109)),(.n (.store 4 5 18))]) (.seq (.seq (.ops [(.d 19 (.mv 0)),(.d 20 (.call 41 [19,(.const (.str [124]))])),(.d 21 (.un .not 20))]) (.cond 21 (.seq (.ops [(.d 22 (.load (some 4) 5)),(.n (.store 4 4 22))]) .ret) .skip)) (.seq (.ops [(.d 23 (.load (some 4) 5)),(.d 24 (.lit 4 72 [] 1 [(0,23)])),(.d 25 (.build [(.i 0),(.str []),.nl,.nl] [(0,(1,(.const (.i 7)))),(3,(1,24))])),(.d 6 (.alloc [(.i 0),(.str []),.nl,.nl] 109)),(.n (.store 4 6 25))]) (.seq (.block 0 (.loop (.seq (.seq (.ops [(.d 26 (.mv 0)),(.d 27 (.call 41 [26,(.const (.str [124]))]))]) (.cond 27 .skip (.exit 0))) (.block 1 (.seq (.ops [(.d 28 (.mv 0)),(.d 29 (.call 59 [28,(.const (.str [124]))]))]) (.iy [(.d 30 (.aB 3 6)),(.d 31 (.load none 30)),(.d 32 (.mv 0)),(.d 33 (.mv 1))] (.alt (.d 34 (.call 83 [32,33])) [(none,30)] (.alt (.d 35 (.lit 4 72 [] 1 [(0,34)])) [] (.alt (.d 36 (.append 4 72 109 31 35)) [] (.alt (.d 37 (.aB 3 6)) [] (.alt (.n (.store 1 37 36)) [] .done .stop) .stop) .stop) .stop) .stop))))))) (.seq (.ops [(.d 38 (.load (some 4) 6)),(.n (.store 4 4 38))]) .ret)))))))))
def ZC :aM:=(.mk 2 30 [(.cell 4 (some 4))] (.seq (.ops [(.d 4 (.alloc [(.i 0),(.str []),.nl,.nl] 109))]) (.seq (.ops [(.d 7 (.mv 0)),(.d 8 (.mv 1)),(.d 9 (.call 96 [7,8])),(.d 5 (.alloc [(.i 0),(.str []),.nl,.nl] 109)),(.n (.store 4 5 9))]) (.seq (.seq (.ops [(.d 10 (.mv 0)),(.d 11 (.call 41 [10,(.const (.str [45,62]))])),(.d 12 (.un .not 11))]) (.cond 12 (.seq (.ops [(.d 13 (.load (some 4) 5)),(.n (.store 4 4 13))]) .ret) .skip)) (.seq (.ops [(.d 14 (.mv 0)),(.d 15 (.call 59 [14,(.const (.str [45,62]))]))]) (.seq (.seq (.ops [(.d 16 (.mv 1)),(.d 17 (.bin .add 16 (.const (.i 1)))),(.d 18 (.bin .gtr 17 (.const (.i 64))))]) (.cond 18 (.seq (.ops [(.d 19 (.mv 0)),(.d 20 (.call 60 [19,(.const (.i 3))]))]) (.seq (.ops [(.d 21 (.load (some 4) 5)),(.n (.store 4 4 21))]) .ret)) .skip)) (.seq (.ops [(.d 22 (.mv 0)),(.d 23 (.mv 1)),(.d 24 (.bin .add 23 (.const (.i 1)))),(.d 25 (.call 83 [22,24])),(.d 6 (.alloc [(.i 0),(.str []),.nl,.nl] 109)),(.n (.store 4 6 25))]) (.seq (.ops [(.d 26 (.load (some 4) 5)),(.d 27 (.load (some 4) 6)),(.d 28 (.lit 4 72 [] 2 [(0,26),(1,27)])),(.d 29 (.build [(.i 0),(.str []),.nl,.nl] [(0,(1,(.const (.i 6)))),(3,(1,28))])),(.n (.store 4 4 29))]) .ret))))))))
def ZB :aM:=(.mk 2 145 [(.cell 4 (some 4))] (.seq (.ops [(.d 4 (.alloc [(.i 0),(.str []),.nl,.nl] 109))]) (.seq (.seq (.ops [(.d 13 (.mv 0)),(.d 14 (.aJ 13)),(.d 15 (.aB 3 14)),(.d 16 (.load none 15))]) (.cond 16 (.seq (.ops [(.d 17 (.build [(.i 0),(.str []),.nl,.nl] [])),(.n (.store 4 4 17))]) .ret) .skip)) (.seq (.draw [(.d 18 (.mv 0)),(.d 19 (.aJ 18)),(.d 20 (.aB 0 19)),(.d 21 (.load none 20)),(.d 22 (.mv 0)),(.d 23 (.aJ 22)),(.d 24 (.aB 1 23)),(.d 25 (.load none 24)),(.d 26 (.aV 3 21 25)),(.d 27 (.load (some 3) 26)),(.d 5 (.alloc [(.i 0),(.i 0),(.str [])] 86))] [(.n (.store 3 5 27))]) (.seq (.seq (.ops [(.d 28 (.aB 0 5)),(.d 29 (.load none 28)),(.d 30 (.bin .eql 29 (.const (.i 1))))]) (.cond 30 (.seq (.ops [(.d 31 (.mv 0)),(.d 32 (.aJ 31)),(.d 33 (.aB 1 32)),(.d 34 (.load none 33)),(.d 35 (.bin .add 34 (.const (.i 1)))),(.d 36 (.aJ 31)),(.d 37 (.aB 1 36)),(.n (.store 1 37 35))]) (.seq (.ops [(.d 38 (.aB 2 5)),(.d 39 (.load none 38)),(.d 40 (.build [(.i 0),(.str []),.nl,.nl] [(0,(1,(.const (.i 8)))),(1,(1,39))])),(.n (.store 4 4 40))]) .ret)) .skip)) (.seq (.ops [(.d 41 (.lit 1 16 [] 4 [(0,(.const (.str [105,110,116]))),(1,(.const (.str [98,111,111,108]))),(2,(.const (.str [116,101,120,116]))),(3,(.const (.str [63])))])),(.d 6 (.mv 41))]) (.seq (.seq (.ops [(.d 7 (.mv (.const (.i 0))))]) (.block 0 (.loop (.seq (.seq (.ops [(.d 42 (.mv 7)),(.d 43 (.mv 6)),(.d 44 (.jo 43)),(.d 45 (.bin .lss 42 44))]) (.cond 45 .skip (.exit 0))) (.seq (.block 1 (.seq (.ops [(.d 48 (.mv 0)),(.d 49 (.mv 6)),(.d 50 (.mv 7)),(.d 51 (.aV 1 49 50)),(.d 52 (.load none 51)),(.d 53 (.call 41 [48,52]))]) (.cond 53 (.seq (.ops [(.d 54 (.mv 0)),(.d 55 (.mv 6)),(.d 56 (.mv 7)),(.d 57 (.aV 1 55 56)),(.d 58 (.load none 57)),(.d 59 (.call 59 [54,58]))]) (.seq (.ops [(.d 60 (.mv 7)),(.d 61 (.bin .add 60 (.const (.i 1)))),(.d 62 (.build [(.i 0),(.str []),.nl,.nl] [(0,(1,61))])),(.n (.store 4 4 62))]) .ret)) .skip))) (.ops [(.d 46 (.mv 7)),(.d 47 (.bin .add 46 (.const (.i 1)))),(.d 7 (.mv 47))])))))) (.seq (.seq (.ops [(.d 63 (.mv 0)),(.d 64 (.call 41 [63,(.const (.str [123]))])),(.d 65 (.un .not 64))]) (.cond 65 (.seq (.ops [(.d 66 (.mv 0)),(.d 67 (.call 59 [66,(.const (.str [40]))]))]) (.seq (.seq (.ops [(.d 68 (.mv 0)),(.d 69 (.aJ 68)),(.d 70 (.aB 3 69)),(.d 71 (.load none 70))]) (.cond 71 (.seq (.ops [(.d 72 (.build [(.i 0),(.str []),.nl,.nl] [])),(.n (.store 4 4 72))]) .ret) .skip)) (.seq (.ops [(.d 73 (.mv 0)),(.d 74 (.mv 1)),(.d 75 (.bin .add 74 (.const (.i 1)))),(.d 76 (.call 62 [73,75])),(.d 8 (.alloc [(.i 0),(.str []),.nl,.nl] 109)),(.n (.store 4 8 76))]) (.seq (.ops [(.d 77 (.mv 0)),(.d 78 (.call 59 [77,(.const (.str [41]))]))]) (.seq (.ops [(.d 79 (.load (some 4) 8)),(.n (.store 4 4 79))]) .ret))))) .skip)) (.seq (.ops [(.d 80 (.mv 0)),(.d 81 (.call 59 [80,(.const (.str [123]))]))]) (.seq (.ops [(.d 82 (.build [(.i 0),(.str []),.nl,.nl] [(0,(1,(.const (.i 5))))])),(.d 9 (.alloc [(.i 0),(.str []),.nl,.nl] 109)),(.n (.store 4 9 82))]) (.seq (.block 2 (.loop (.seq (.seq (.ops [(.d 83 (.mv 0)),(.d 84 (.aJ 83)),(.d 85 (.aB 3 84)),(.d 86 (.load none 85)),(.d 87 (.un .not 86)),(.d 88 (.mv 87)),(.g 89 (.mv 0) 88 true),(.g 90 (.call 41 [89,(.const (.str [125]))]) 88 true),(.g 91 (.un .not 90) 88 true),(.d 92 (.pick 88 91 (.const (.bool false))))]) (.cond 92 .skip (.exit 2))) (.block 3 (.seq (.ops [(.d 93 (.mv 0)),(.d 94 (.call 61 [93])),(.d 10 (.alloc [(.i 0),(.i 0),(.str [])] 86)),(.n (.store 3 10 94))]) (.seq (.ops [(.d 95 (.mv 0)),(.d 96 (.call 59 [95,(.const (.str [58]))]))]) (.seq (.seq (.ops [(.d 97 (.mv 0)),(.d 98 (.aJ 97)),(.d 99 (.aB 3 98)),(.d 100 (.load none 99))]) (.cond 100 (.seq (.ops [(.d 101 (.build [(.i 0),(.str []),.nl,.nl] [])),(.n (.store 4 4 101))]) .ret) .skip)) (.seq (.ops [(.d 102 (.aB 2 9)),(.d 103 (.load none 102)),(.d 104 (.aB 2 10)),(.d 105 (.load none 104)),(.d 106 (.call 85 [103,105])),(.d 11 (.mv 106))]) (.seq (.seq (.ops [(.d 107 (.mv 11))]) (.cond 107 (.draw [(.d 108 (.mv 0)),(.d 109 (.mv 0)),(.d 110 (.aJ 109)),(.d 111 (.aB 2 110)),(.d 112 (.load none 111)),(.d 113 (.aB 1 10)),(.d 114 (.load none 113)),(.d 115 (.aB 2 10)),(.d 116 (.load none 115)),(.d 117 (.build [(.i 0),(.i 0),(.str [])] [(0,(1,114)),(1,(1,(.const (.i 4)))),(2,(1,116))])),(.d 118 (.lit 3 32 [] 1 [(0,117)]))] [(.d 119 (.append 3 32 127 112 118)),(.d 120 (.aJ 108)),(.d 121 (.aB 2 120)),(.n (.store 1 121 119))]) .skip)) (.seq (.ops [(.d 122 (.mv 0)),(.d 123 (.mv 1)),(.d 124 (.bin .add 123 (.const (.i 1)))),(.d 125 (.call 62 [122,124])),(.d 12 (.alloc [(.i 0),(.str []),.nl,.nl] 109)),(.n (.store 4 12 125))]) (.seq (.seq (.ops [(.d 126 (.mv 11)),(.d 127 (.un .not 126))]) (.cond 127 (.ops [(.d 128 (.load (some 4) 9)),(.d 129 (.aB 2 10)),(.d 130 (.load none 129)),(.d 131 (.load (some 4) 12)),(.d 132 (.call 104 [128,130,131])),(.n (.store 4 9 132))]) .skip)) (.seq (.ops [(.d 133 (.mv 0)),(.d 134 (.call 41 [133,(.const (.str [125]))])),(.d 135 (.un .not 134))]) (.cond 135 (.seq (.ops [(.d 136 (.mv 0)),(.d 137 (.call 59 [136,(.const (.str [44]))]))]) (.seq (.ops [(.d 138 (.mv 0)),(.d 139 (.call 41 [138,(.const (.str [125]))]))]) (.cond 139 (.ops [(.d 140 (.mv 0)),(.d 141 (.call 60 [140,(.const (.i 2))]))]) .skip))) .skip))))))))))))) (.seq (.ops [(.d 142 (.mv 0)),(.d 143 (.call 59 [142,(.const (.str [125]))]))]) (.seq (.ops [(.d 144 (.load (some 4) 9)),(.n (.store 4 4 144))]) .ret)))))))))))))
def ZI :aM:=(.mk 2 172 [(.cell 4 (some 7))] (.seq (.ops [(.d 4 (.alloc [(.i 0),(.i 0),(.str []),(.i 0),.nl,.nl,.nl] 70))]) (.seq (.seq (.ops [(.d 17 (.mv 1)),(.d 18 (.bin .gtr 17 (.const (.i 64))))]) (.cond 18 (.ops [(.d 19 (.mv 0)),(.d 20 (.call 60 [19,(.const (.i 3))]))]) .skip)) (.seq (.seq (.ops [(.d 21 (.mv 0)),(.d 22 (.aJ 21)),(.d 23 (.aB 3 22)),(.d 24 (.load none 23))]) (.cond 24 (.seq (.ops [(.d 25 (.build [(.i 0),(.i 0),(.str []),(.i 0),.nl,.nl,.nl] [])),(.n (.store 7 4 25))]) .ret) .skip)) (.seq (.draw [(.d 26 (.mv 0)),(.d 27 (.aJ 26)),(.d 28 (.aB 0 27)),(.d 29 (.load none 28)),(.d 30 (.mv 0)),(.d 31 (.aJ 30)),(.d 32 (.aB 1 31)),(.d 33 (.load none 32)),(.d 34 (.aV 3 29 33)),(.d 35 (.aB 1 34)),(.d 36 (.load none 35)),(.d 5 (.mv 36))] []) (.seq (.seq (.ops [(.d 37 (.mv 0)),(.d 38 (.call 41 [37,(.const (.str [102,117,110]))]))]) (.cond 38 (.seq (.ops [(.d 39 (.mv 0)),(.d 40 (.call 59 [39,(.const (.str [102,117,110]))]))]) (.seq (.ops [(.d 41 (.mv 0)),(.d 42 (.call 59 [41,(.const (.str [40]))]))]) (.seq (.ops [(.d 43 (.mv 0)),(.d 44 (.call 61 [43])),(.d 6 (.alloc [(.i 0),(.i 0),(.str [])] 86)),(.n (.store 3 6 44))]) (.seq (.ops [(.d 45 (.mv 0)),(.d 46 (.call 59 [45,(.const (.str [58]))]))]) (.seq (.seq (.ops [(.d 47 (.mv 0)),(.d 48 (.aJ 47)),(.d 49 (.aB 3 48)),(.d 50 (.load none 49))]) (.cond 50 (.seq (.ops [(.d 51 (.build [(.i 0),(.i 0),(.str []),(.i 0),.nl,.nl,.nl] [])),(.n (.store 7 4 51))]) .ret) .skip)) (.seq (.ops [(.d 52 (.mv 0)),(.d 53 (.mv 1)),(.d 54 (.bin .add 53 (.const (.i 1)))),(.d 55 (.call 62 [52,54])),(.d 7 (.alloc [(.i 0),(.str []),.nl,.nl] 109)),(.n (.store 4 7 55))]) (.seq (.ops [(.d 56 (.mv 0)),(.d 57 (.call 59 [56,(.const (.str [41]))]))]) (.seq (.seq (.ops [(.d 58 (.mv 0)),(.d 59 (.aJ 58)),(.d 60 (.aB 3 59)),(.d 61 (.load none 60))]) (.cond 61 (.seq (.ops [(.d 62 (.build [(.i 0),(.i 0),(.str []),(.i 0),.nl,.nl,.nl] [])),(.n (.store 7 4 62))]) .ret) .skip)) (.seq (.iy [(.d 63 (.mv 5)),(.d 64 (.aB 2 6)),(.d 65 (.load none 64)),(.d 66 (.mv 0)),(.d 67 (.mv 1)),(.d 68 (.bin .add 67 (.const (.i 1)))),(.d 71 (.load (some 4) 7)),(.d 72 (.lit 4 72 [] 1 [(0,71)]))] (.alt (.d 69 (.call 42 [66,68])) [(none,64),((some 4),7)] (.alt (.d 70 (.lit 7 112 [] 1 [(0,69)])) [] (.alt (.d 73 (.build [(.i 0),(.i 0),(.str []),(.i 0),.nl,.nl,.nl] [(0,(1,(.const (.i 8)))),(1,(1,63)),(2,(1,65)),(5,(1,70)),(6,(1,72))])) [] (.alt (.n (.store 7 4 73)) [] .done .stop) .stop) .stop) .stop)) .ret))))))))) .skip)) (.seq (.seq (.ops [(.d 74 (.mv 0)),(.d 75 (.call 41 [74,(.const (.str [108,101,116]))]))]) (.cond 75 (.seq (.ops [(.d 76 (.mv 0)),(.d 77 (.call 59 [76,(.const (.str [108,101,116]))]))]) (.seq (.ops [(.d 78 (.mv 0)),(.d 79 (.call 61 [78])),(.d 8 (.alloc [(.i 0),(.i 0),(.str [])] 86)),(.n (.store 3 8 79))]) (.seq (.ops [(.d 80 (.mv 0)),(.d 81 (.call 59 [80,(.const (.str [61]))]))]) (.seq (.ops [(.d 82 (.mv 0)),(.d 83 (.mv 1)),(.d 84 (.bin .add 83 (.const (.i 1)))),(.d 85 (.call 42 [82,84])),(.d 9 (.alloc [(.i 0),(.i 0),(.str []),(.i 0),.nl,.nl,.nl] 70)),(.n (.store 7 9 85))]) (.seq (.ops [(.d 86 (.mv 0)),(.d 87 (.call 59 [86,(.const (.str [105,110]))]))]) (.seq (.ops [(.d 88 (.mv 0)),(.d 89 (.mv 1)),(.d 90 (.bin .add 89 (.const (.i 1)))),(.d 91 (.call 42 [88,90])),(.d 10 (.alloc [(.i 0),(.i 0),(.str []),(.i 0),.nl,.nl,.nl] 70)),(.n (.store 7 10 91))]) (.seq (.ops [(.d 92 (.mv 5)),(.d 93 (.aB 2 8)),(.d 94 (.load none 93)),(.d 95 (.load (some 7) 9)),(.d 96 (.load (some 7) 10)),(.d 97 (.lit 7 112 [] 2 [(0,95),(1,96)])),(.d 98 (.build [(.i 0),(.i 0),(.str []),(.i 0),.nl,.nl,.nl] [(0,(1,(.const (.i 9)))),(1,(1,92)),(2,(1,94)),(5,(1,97))])),(.n (.store 7 4 98))]) .ret))))))) .skip)) (.seq (.seq (.ops [(.d 99 (.mv 0)),(.d 100 (.call 41 [99,(.const (.str [105,102]))]))]) (.cond 100 (.seq (.ops [(.d 101 (.mv 0)),(.d 102 (.call 59 [101,(.const (.str [105,102]))]))]) (.seq (.ops [(.d 103 (.mv 0)),(.d 104 (.mv 1)),(.d 105 (.bin .add 104 (.const (.i 1)))),(.d 106 (.call 42 [103,105])),(.d 11 (.alloc [(.i 0),(.i 0),(.str []),(.i 0),.nl,.nl,.nl] 70)),(.n (.store 7 11 106))]) (.seq (.ops [(.d 107 (.mv 0)),(.d 108 (.call 59 [107,(.const (.str [116,104,101,110]))]))]) (.seq (.ops [(.d 109 (.mv 0)),(.d 110 (.mv 1)),(.d 111 (.bin .add 110 (.const (.i 1)))),(.d 112 (.call 42 [109,111])),(.d 12 (.alloc [(.i 0),(.i 0),(.str []),(.i 0),.nl,.nl,.nl] 70)),(.n (.store 7 12 112))]) (.seq (.ops [(.d 113 (.mv 0)),(.d 114 (.call 59 [113,(.const (.str [101,108,115,101]))]))]) (.seq (.ops [(.d 115 (.mv 0)),(.d 116 (.mv 1)),(.d 117 (.bin .add 116 (.const (.i 1)))),(.d 118 (.call 42 [115,117])),(.d 13 (.alloc [(.i 0),(.i 0),(.str []),(.i 0),.nl,.nl,.nl] 70)),(.n (.store 7 13 118))]) (.seq (.ops [(.d 119 (.mv 5)),(.d 120 (.load (some 7) 11)),(.d 121 (.load (some 7) 12)),(.d 122 (.load (some 7) 13)),(.d 123 (.lit 7 112 [] 3 [(0,120),(1,121),(2,122)])),(.d 124 (.build [(.i 0),(.i 0),(.str []),(.i 0),.nl,.nl,.nl] [(0,(1,(.const (.i 10)))),(1,(1,119)),(5,(1,123))])),(.n (.store 7 4 124))]) .ret))))))) .skip)) (.seq (.ops [(.d 125 (.mv 0)),(.d 126 (.mv 1)),(.d 127 (.call 63 [125,126])),(.d 14 (.alloc [(.i 0),(.i 0),(.str []),(.i 0),.nl,.nl,.nl] 70)),(.n (.store 7 14 127))]) (.seq (.block 0 (.loop (.seq (.seq (.ops [(.d 128 (.mv 0)),(.d 129 (.call 41 [128,(.const (.str [40]))])),(.d 130 (.mv 129)),(.g 131 (.mv 0) 130 false),(.g 132 (.call 41 [131,(.const (.str [46]))]) 130 false),(.d 133 (.pick 130 (.const (.bool true)) 132))]) (.cond 133 .skip (.exit 0))) (.block 1 (.seq (.draw [(.d 134 (.mv 0)),(.d 135 (.aJ 134)),(.d 136 (.aB 0 135)),(.d 137 (.load none 136)),(.d 138 (.mv 0)),(.d 139 (.aJ 138)),(.d 140 (.aB 1 139)),(.d 141 (.load none 140)),(.d 142 (.aV 3 137 141)),(.d 143 (.aB 1 142)),(.d 144 (.load none 143)),(.d 5 (.mv 144))] []) (.seq (.seq (.ops [(.d 145 (.mv 0)),(.d 146 (.call 41 [145,(.const (.str [40]))]))]) (.cond 146 (.seq (.ops [(.d 147 (.mv 0)),(.d 148 (.call 59 [147,(.const (.str [40]))]))]) (.seq (.ops [(.d 149 (.mv 0)),(.d 150 (.mv 1)),(.d 151 (.bin .add 150 (.const (.i 1)))),(.d 152 (.call 42 [149,151])),(.d 15 (.alloc [(.i 0),(.i 0),(.str []),(.i 0),.nl,.nl,.nl] 70)),(.n (.store 7 15 152))]) (.seq (.ops [(.d 153 (.mv 0)),(.d 154 (.call 59 [153,(.const (.str [41]))]))]) (.seq (.ops [(.d 155 (.mv 5)),(.d 156 (.load (some 7) 14)),(.d 157 (.load (some 7) 15)),(.d 158 (.lit 7 112 [] 2 [(0,156),(1,157)])),(.d 159 (.build [(.i 0),(.i 0),(.str []),(.i 0),.nl,.nl,.nl] [(0,(1,(.const (.i 7)))),(1,(1,155)),(5,(1,158))])),(.n (.store 7 14 159))]) (.exit 1))))) .skip)) (.seq (.ops [(.d 160 (.mv 0)),(.d 161 (.call 59 [160,(.const (.str [46]))]))]) (.seq (.ops [(.d 162 (.mv 0)),(.d 163 (.call 61 [162])),(.d 16 (.alloc [(.i 0),(.i 0),(.str [])] 86)),(.n (.store 3 16 163))]) (.ops [(.d 164 (.aB 1 16)),(.d 165 (.load none 164)),(.d 166 (.aB 2 16)),(.d 167 (.load none 166)),(.d 168 (.load (some 7) 14)),(.d 169 (.lit 7 112 [] 1 [(0,168)])),(.d 170 (.build [(.i 0),(.i 0),(.str []),(.i 0),.nl,.nl,.nl] [(0,(1,(.const (.i 6)))),(1,(1,165)),(2,(1,167)),(5,(1,169))])),(.n (.store 7 14 170))]))))))))) (.seq (.ops [(.d 171 (.load (some 7) 14)),(.n (.store 7 4 171))]) .ret)))))))))))
def ZE :aM:=(.mk 2 193 [(.cell 4 (some 7))] (.seq (.ops [(.d 4 (.alloc [(.i 0),(.i 0),(.str []),(.i 0),.nl,.nl,.nl] 70))]) (.seq (.seq (.ops [(.d 12 (.mv 0)),(.d 13 (.aJ 12)),(.d 14 (.aB 3 13)),(.d 15 (.load none 14))]) (.cond 15 (.seq (.ops [(.d 16 (.build [(.i 0),(.i 0),(.str []),(.i 0),.nl,.nl,.nl] [])),(.n (.store 7 4 16))]) .ret) .skip)) (.seq (.draw [(.d 17 (.mv 0)),(.d 18 (.aJ 17)),(.d 19 (.aB 0 18)),(.d 20 (.load none 19)),(.d 21 (.mv 0)),(.d 22 (.aJ 21)),(.d 23 (.aB 1 22)),(.d 24 (.load none 23)),(.d 25 (.aV 3 20 24)),(.d 26 (.load (some 3) 25)),(.d 5 (.alloc [(.i 0),(.i 0),(.str [])] 86))] [(.n (.store 3 5 26))]) (.seq (.seq (.ops [(.d 27 (.aB 0 5)),(.d 28 (.load none 27))]) (.block 0 (.seq (.ops [(.d 30 (.bin .eql 28 (.const (.i 1)))),(.d 29 (.mv 30))]) (.cond 29 (.seq (.ops [(.d 31 (.mv 0)),(.d 32 (.aJ 31)),(.d 33 (.aB 1 32)),(.d 34 (.load none 33)),(.d 35 (.bin .add 34 (.const (.i 1)))),(.d 36 (.aJ 31)),(.d 37 (.aB 1 36)),(.n (.store 1 37 35))]) (.seq (.ops [(.d 38 (.aB 1 5)),(.d 39 (.load none 38)),(.d 40 (.aB 2 5)),(.d 41 (.load none 40)),(.d 42 (.build [(.i 0),(.i 0),(.str []),(.i 0),.nl,.nl,.nl] [(0,(1,(.const (.i 4)))),(1,(1,39)),(2,(1,41))])),(.n (.store 7 4 42))]) .ret)) (.seq (.ops [(.d 44 (.bin .eql 28 (.const (.i 3)))),(.d 43 (.mv 44))]) (.cond 43 (.seq (.ops [(.d 45 (.mv 0)),(.d 46 (.aJ 45)),(.d 47 (.aB 1 46)),(.d 48 (.load none 47)),(.d 49 (.bin .add 48 (.const (.i 1)))),(.d 50 (.aJ 45)),(.d 51 (.aB 1 50)),(.n (.store 1 51 49))]) (.seq (.iy [(.d 52 (.aB 1 5)),(.d 53 (.load none 52)),(.d 54 (.aB 2 5)),(.d 55 (.load none 54))] (.alt (.d 56 (.call 84 [55])) [(none,52)] (.alt (.d 57 (.build [(.i 0),(.i 0),(.str []),(.i 0),.nl,.nl,.nl] [(0,(1,(.const (.i 1)))),(1,(1,53)),(3,(1,56))])) [] (.alt (.n (.store 7 4 57)) [] .done .stop) .stop) .stop)) .ret)) (.seq (.ops [(.d 59 (.bin .eql 28 (.const (.i 4)))),(.d 58 (.mv 59))]) (.cond 58 (.seq (.ops [(.d 60 (.mv 0)),(.d 61 (.aJ 60)),(.d 62 (.aB 1 61)),(.d 63 (.load none 62)),(.d 64 (.bin .add 63 (.const (.i 1)))),(.d 65 (.aJ 60)),(.d 66 (.aB 1 65)),(.n (.store 1 66 64))]) (.seq (.ops [(.d 67 (.aB 1 5)),(.d 68 (.load none 67)),(.d 69 (.aB 2 5)),(.d 70 (.load none 69)),(.d 71 (.build [(.i 0),(.i 0),(.str []),(.i 0),.nl,.nl,.nl] [(0,(1,(.const (.i 2)))),(1,(1,68)),(2,(1,70))])),(.n (.store 7 4 71))]) .ret)) .skip)))))))) (.seq (.seq (.ops [(.d 72 (.mv 0)),(.d 73 (.call 41 [72,(.const (.str [116,114,117,101]))]))]) (.cond 73 (.seq (.ops [(.d 74 (.mv 0)),(.d 75 (.call 59 [74,(.const (.str [116,114,117,101]))]))]) (.seq (.ops [(.d 76 (.aB 1 5)),(.d 77 (.load none 76)),(.d 78 (.build [(.i 0),(.i 0),(.str []),(.i 0),.nl,.nl,.nl] [(0,(1,(.const (.i 3)))),(1,(1,77)),(3,(1,(.const (.i 1))))])),(.n (.store 7 4 78))]) .ret)) .skip)) (.seq (.seq (.ops [(.d 79 (.mv 0)),(.d 80 (.call 41 [79,(.const (.str [102,97,108,115,101]))]))]) (.cond 80 (.seq (.ops [(.d 81 (.mv 0)),(.d 82 (.call 59 [81,(.const (.str [102,97,108,115,101]))]))]) (.seq (.ops [(.d 83 (.aB 1 5)),(.d 84 (.load none 83)),(.d 85 (.build [(.i 0),(.i 0),(.str []),(.i 0),.nl,.nl,.nl] [(0,(1,(.const (.i 3)))),(1,(1,84))])),(.n (.store 7 4 85))]) .ret)) .skip)) (.seq (.seq (.ops [(.d 86 (.mv 0)),(.d 87 (.call 41 [86,(.const (.str [123]))])),(.d 88 (.un .not 87))]) (.cond 88 (.seq (.ops [(.d 89 (.mv 0)),(.d 90 (.call 59 [89,(.const (.str [40]))]))]) (.seq (.seq (.ops [(.d 91 (.mv 0)),(.d 92 (.aJ 91)),(.d 93 (.aB 3 92)),(.d 94 (.load none 93))]) (.cond 94 (.seq (.ops [(.d 95 (.build [(.i 0),(.i 0),(.str []),(.i 0),.nl,.nl,.nl] [])),(.n (.store 7 4 95))]) .ret) .skip)) (.seq (.ops [(.d 96 (.mv 0)),(.d 97 (.mv 1)),(.d 98 (.bin .add 97 (.const (.i 1)))),(.d 99 (.call 42 [96,98])),(.d 6 (.alloc [(.i 0),(.i 0),(.str []),(.i 0),.nl,.nl,.nl] 70)),(.n (.store 7 6 99))]) (.seq (.seq (.ops [(.d 100 (.mv 0)),(.d 101 (.call 41 [100,(.const (.str [58]))]))]) (.cond 101 (.seq (.ops [(.d 102 (.mv 0)),(.d 103 (.call 59 [102,(.const (.str [58]))]))]) (.seq (.ops [(.d 104 (.mv 0)),(.d 105 (.mv 1)),(.d 106 (.bin .add 105 (.const (.i 1)))),(.d 107 (.call 62 [104,106])),(.d 7 (.alloc [(.i 0),(.str []),.nl,.nl] 109)),(.n (.store 4 7 107))]) (.ops [(.d 108 (.aB 1 5)),(.d 109 (.load none 108)),(.d 110 (.load (some 7) 6)),(.d 111 (.lit 7 112 [] 1 [(0,110)])),(.d 112 (.load (some 4) 7)),(.d 113 (.lit 4 72 [] 1 [(0,112)])),(.d 114 (.build [(.i 0),(.i 0),(.str []),(.i 0),.nl,.nl,.nl] [(0,(1,(.const (.i 11)))),(1,(1,109)),(5,(1,111)),(6,(1,113))])),(.n (.store 7 6 114))]))) .skip)) (.seq (.ops [(.d 115 (.mv 0)),(.d 116 (.call 59 [115,(.const (.str [41]))]))]) (.seq (.ops [(.d 117 (.load (some 7) 6)),(.n (.store 7 4 117))]) .ret)))))) .skip)) (.seq (.ops [(.d 118 (.mv 0)),(.d 119 (.call 59 [118,(.const (.str [123]))]))]) (.seq (.ops [(.d 120 (.aB 1 5)),(.d 121 (.load none 120)),(.d 122 (.build [(.i 0),(.i 0),(.str []),(.i 0),.nl,.nl,.nl] [(0,(1,(.const (.i 5)))),(1,(1,121))])),(.d 8 (.alloc [(.i 0),(.i 0),(.str []),(.i 0),.nl,.nl,.nl] 70)),(.n (.store 7 8 122))]) (.seq (.block 1 (.loop (.seq (.seq (.ops [(.d 123 (.mv 0)),(.d 124 (.aJ 123)),(.d 125 (.aB 3 124)),(.d 126 (.load none 125)),(.d 127 (.un .not 126)),(.d 128 (.mv 127)),(.g 129 (.mv 0) 128 true),(.g 130 (.call 41 [129,(.const (.str [125]))]) 128 true),(.g 131 (.un .not 130) 128 true),(.d 132 (.pick 128 131 (.const (.bool false))))]) (.cond 132 .skip (.exit 1))) (.block 2 (.seq (.ops [(.d 133 (.mv 0)),(.d 134 (.call 61 [133])),(.d 9 (.alloc [(.i 0),(.i 0),(.str [])] 86)),(.n (.store 3 9 134))]) (.seq (.ops [(.d 135 (.mv 0)),(.d 136 (.call 59 [135,(.const (.str [61]))]))]) (.seq (.seq (.ops [(.d 137 (.mv 0)),(.d 138 (.aJ 137)),(.d 139 (.aB 3 138)),(.d 140 (.load none 139))]) (.cond 140 (.seq (.ops [(.d 141 (.build [(.i 0),(.i 0),(.str []),(.i 0),.nl,.nl,.nl] [])),(.n (.store 7 4 141))]) .ret) .skip)) (.seq (.ops [(.d 142 (.aB 4 8)),(.d 143 (.load none 142)),(.d 144 (.aB 2 9)),(.d 145 (.load none 144)),(.d 146 (.call 85 [143,145])),(.d 10 (.mv 146))]) (.seq (.seq (.ops [(.d 147 (.mv 10))]) (.cond 147 (.draw [(.d 148 (.mv 0)),(.d 149 (.mv 0)),(.d 150 (.aJ 149)),(.d 151 (.aB 2 150)),(.d 152 (.load none 151)),(.d 153 (.aB 1 9)),(.d 154 (.load none 153)),(.d 155 (.aB 2 9)),(.d 156 (.load none 155)),(.d 157 (.build [(.i 0),(.i 0),(.str [])] [(0,(1,154)),(1,(1,(.const (.i 4)))),(2,(1,156))])),(.d 158 (.lit 3 32 [] 1 [(0,157)]))] [(.d 159 (.append 3 32 127 152 158)),(.d 160 (.aJ 148)),(.d 161 (.aB 2 160)),(.n (.store 1 161 159))]) .skip)) (.seq (.ops [(.d 162 (.mv 0)),(.d 163 (.mv 1)),(.d 164 (.bin .add 163 (.const (.i 1)))),(.d 165 (.call 42 [162,164])),(.d 11 (.alloc [(.i 0),(.i 0),(.str []),(.i 0),.nl,.nl,.nl] 70)),(.n (.store 7 11 165))]) (.seq (.seq (.ops [(.d 166 (.mv 10)),(.d 167 (.un .not 166))]) (.cond 167 (.seq (.ops [(.d 168 (.aB 4 8)),(.d 169 (.load none 168)),(.d 170 (.aB 2 9)),(.d 171 (.load none 170)),(.d 172 (.lit 1 16 [] 1 [(0,171)])),(.d 173 (.append 1 16 10 169 172)),(.d 174 (.aB 4 8)),(.n (.store 1 174 173))]) (.ops [(.d 175 (.aB 5 8)),(.d 176 (.load none 175)),(.d 177 (.load (some 7) 11)),(.d 178 (.lit 7 112 [] 1 [(0,177)])),(.d 179 (.append 7 112 70 176 178)),(.d 180 (.aB 5 8)),(.n (.store 1 180 179))])) .skip)) (.seq (.ops [(.d 181 (.mv 0)),(.d 182 (.call 41 [181,(.const (.str [125]))])),(.d 183 (.un .not 182))]) (.cond 183 (.seq (.ops [(.d 184 (.mv 0)),(.d 185 (.call 59 [184,(.const (.str [44]))]))]) (.seq (.ops [(.d 186 (.mv 0)),(.d 187 (.call 41 [186,(.const (.str [125]))]))]) (.cond 187 (.ops [(.d 188 (.mv 0)),(.d 189 (.call 60 [188,(.const (.i 2))]))]) .skip))) .skip))))))))))))) (.seq (.ops [(.d 190 (.mv 0)),(.d 191 (.call 59 [190,(.const (.str [125]))]))]) (.seq (.ops [(.d 192 (.load (some 7) 8)),(.n (.store 7 4 192))]) .ret)))))))))))))
def ZJ :aM:=(.mk 1 81 [(.cell 2 (some 5))] (.seq (.ops [(.d 2 (.alloc [(.i 0),(.i 0),(.str []),.nl,.nl] 67))]) (.seq (.ops [(.d 7 (.build [(.i 0),(.i 0),(.str []),.nl,.nl] [])),(.d 3 (.alloc [(.i 0),(.i 0),(.str []),.nl,.nl] 67)),(.n (.store 5 3 7))]) (.seq (.ops [(.d 8 (.lit 1 16 [] 3 [(0,(.const (.str [117,115,101]))),(1,(.const (.str [116,121,112,101]))),(2,(.const (.str [108,101,116])))])),(.d 4 (.mv 8))]) (.seq (.seq (.ops [(.d 5 (.mv (.const (.i 0))))]) (.block 0 (.loop (.seq (.seq (.ops [(.d 9 (.mv 5)),(.d 10 (.bin .lss 9 (.const (.i 3))))]) (.cond 10 .skip (.exit 0))) (.seq (.block 1 (.seq (.ops [(.d 13 (.aB 0 3)),(.d 14 (.load none 13)),(.d 15 (.bin .eql 14 (.const (.i 0)))),(.d 16 (.mv 15)),(.g 17 (.mv 0) 16 true),(.g 18 (.mv 4) 16 true),(.g 19 (.mv 5) 16 true),(.g 20 (.aV 1 18 19) 16 true),(.g 21 (.load none 20) 16 true),(.g 22 (.call 41 [17,21]) 16 true),(.d 23 (.pick 16 22 (.const (.bool false))))]) (.cond 23 (.seq (.ops [(.d 24 (.mv 0)),(.d 25 (.mv 4)),(.d 26 (.mv 5)),(.d 27 (.aV 1 25 26)),(.d 28 (.load none 27)),(.d 29 (.call 59 [24,28]))]) (.ops [(.d 30 (.mv 5)),(.d 31 (.bin .add 30 (.const (.i 1)))),(.d 32 (.aB 0 3)),(.n (.store 1 32 31))])) .skip))) (.ops [(.d 11 (.mv 5)),(.d 12 (.bin .add 11 (.const (.i 1)))),(.d 5 (.mv 12))])))))) (.seq (.seq (.ops [(.d 33 (.aB 0 3)),(.d 34 (.load none 33)),(.d 35 (.bin .eql 34 (.const (.i 0))))]) (.cond 35 (.seq (.ops [(.d 36 (.mv 0)),(.d 37 (.call 60 [36,(.const (.i 2))]))]) (.seq (.ops [(.d 38 (.load (some 5) 3)),(.n (.store 5 2 38))]) .ret)) .skip)) (.seq (.ops [(.d 39 (.mv 0)),(.d 40 (.call 61 [39])),(.d 6 (.alloc [(.i 0),(.i 0),(.str [])] 86)),(.n (.store 3 6 40))]) (.seq (.ops [(.d 41 (.aB 1 6)),(.d 42 (.load none 41)),(.d 43 (.aB 1 3)),(.n (.store 1 43 42))]) (.seq (.ops [(.d 44 (.aB 2 6)),(.d 45 (.load none 44)),(.d 46 (.aB 2 3)),(.n (.store 1 46 45))]) (.seq (.seq (.ops [(.d 47 (.aB 0 3)),(.d 48 (.load none 47)),(.d 49 (.bin .eql 48 (.const (.i 3)))),(.d 50 (.mv 49)),(.g 51 (.mv 0) 50 true),(.g 52 (.call 41 [51,(.const (.str [58]))]) 50 true),(.d 53 (.pick 50 52 (.const (.bool false))))]) (.cond 53 (.seq (.ops [(.d 54 (.mv 0)),(.d 55 (.call 59 [54,(.const (.str [58]))]))]) (.ops [(.d 56 (.mv 0)),(.d 57 (.call 62 [56,(.const (.i 1))])),(.d 58 (.lit 4 72 [] 1 [(0,57)])),(.d 59 (.aB 3 3)),(.n (.store 1 59 58))])) .skip)) (.seq (.seq (.ops [(.d 60 (.aB 0 3)),(.d 61 (.load none 60)),(.d 62 (.bin .eql 61 (.const (.i 2))))]) (.cond 62 (.seq (.ops [(.d 63 (.mv 0)),(.d 64 (.call 59 [63,(.const (.str [61]))]))]) (.ops [(.d 65 (.mv 0)),(.d 66 (.call 62 [65,(.const (.i 1))])),(.d 67 (.lit 4 72 [] 1 [(0,66)])),(.d 68 (.aB 3 3)),(.n (.store 1 68 67))])) .skip)) (.seq (.seq (.ops [(.d 69 (.aB 0 3)),(.d 70 (.load none 69)),(.d 71 (.bin .eql 70 (.const (.i 3))))]) (.cond 71 (.seq (.ops [(.d 72 (.mv 0)),(.d 73 (.call 59 [72,(.const (.str [61]))]))]) (.ops [(.d 74 (.mv 0)),(.d 75 (.call 42 [74,(.const (.i 1))])),(.d 76 (.lit 7 112 [] 1 [(0,75)])),(.d 77 (.aB 4 3)),(.n (.store 1 77 76))])) .skip)) (.seq (.ops [(.d 78 (.mv 0)),(.d 79 (.call 59 [78,(.const (.str [59]))]))]) (.seq (.ops [(.d 80 (.load (some 5) 3)),(.n (.store 5 2 80))]) .ret))))))))))))))
def ZK :aM:=(.mk 1 50 [2,3] (.seq (.ops [(.d 2 (.mv (.const .nl))),(.d 3 (.mv (.const .nl)))]) (.seq (.ops [(.d 7 (.mv 0)),(.d 8 (.call 39 [7])),(.d 4 (.alloc [.nl,(.i 0),.nl,(.bool false)] 83)),(.n (.store 4 4 8))]) (.seq (.ops [(.d 5 (.mv (.const .nl)))]) (.seq (.block 0 (.loop (.seq (.seq (.ops [(.d 9 (.aB 0 4)),(.d 10 (.load none 9)),(.d 11 (.aB 1 4)),(.d 12 (.load none 11)),(.d 13 (.aV 3 10 12)),(.d 14 (.aB 0 13)),(.d 15 (.load none 14)),(.d 16 (.bin .neq 15 (.const (.i 6))))]) (.cond 16 .skip (.exit 0))) (.block 1 (.seq (.ops [(.d 17 (.call 40 [4])),(.d 6 (.alloc [(.i 0),(.i 0),(.str []),.nl,.nl] 67)),(.n (.store 5 6 17))]) (.seq (.seq (.ops [(.d 18 (.aB 3 4)),(.d 19 (.load none 18)),(.d 20 (.un .not 19))]) (.cond 20 (.seq (.ops [(.d 21 (.mv 5)),(.d 22 (.load (some 5) 6)),(.d 23 (.lit 5 80 [] 1 [(0,22)])),(.d 24 (.append 5 80 67 21 23)),(.d 5 (.mv 24))]) (.exit 1)) .skip)) (.seq (.ops [(.d 25 (.aB 3 4)),(.n (.store 1 25 (.const (.bool false))))]) (.seq (.block 2 (.loop (.seq (.seq (.ops [(.d 26 (.aB 0 4)),(.d 27 (.load none 26)),(.d 28 (.aB 1 4)),(.d 29 (.load none 28)),(.d 30 (.aV 3 27 29)),(.d 31 (.aB 0 30)),(.d 32 (.load none 31)),(.d 33 (.bin .neq 32 (.const (.i 6)))),(.d 34 (.mv 33)),(.g 35 (.call 41 [4,(.const (.str [59]))]) 34 true),(.g 36 (.un .not 35) 34 true),(.d 37 (.pick 34 36 (.const (.bool false))))]) (.cond 37 .skip (.exit 2))) (.block 3 (.ops [(.d 38 (.aB 1 4)),(.d 39 (.load none 38)),(.d 40 (.bin .add 39 (.const (.i 1)))),(.d 41 (.aB 1 4)),(.n (.store 1 41 40))]))))) (.seq (.ops [(.d 42 (.call 41 [4,(.const (.str [59]))]))]) (.cond 42 (.ops [(.d 43 (.aB 1 4)),(.d 44 (.load none 43)),(.d 45 (.bin .add 44 (.const (.i 1)))),(.d 46 (.aB 1 4)),(.n (.store 1 46 45))]) .skip)))))))))) (.seq (.draw [(.d 47 (.mv 5)),(.d 48 (.aB 2 4)),(.d 49 (.load none 48)),(.d 2 (.mv 47)),(.d 3 (.mv 49))] []) .ret))))))
def Yj :aM:=(.mk 2 18 [4] (.seq (.ops [(.d 4 (.mv (.const (.bool false))))]) (.seq (.seq (.ops [(.d 5 (.mv (.const (.i 0))))]) (.block 0 (.loop (.seq (.seq (.ops [(.d 6 (.mv 5)),(.d 7 (.mv 0)),(.d 8 (.jo 7)),(.d 9 (.bin .lss 6 8))]) (.cond 9 .skip (.exit 0))) (.seq (.block 1 (.seq (.ops [(.d 12 (.mv 0)),(.d 13 (.mv 5)),(.d 14 (.aV 1 12 13)),(.d 15 (.load none 14)),(.d 16 (.mv 1)),(.d 17 (.bin .eql 15 16))]) (.cond 17 (.seq (.ops [(.d 4 (.mv (.const (.bool true))))]) .ret) .skip))) (.ops [(.d 10 (.mv 5)),(.d 11 (.bin .add 10 (.const (.i 1)))),(.d 5 (.mv 11))])))))) (.seq (.ops [(.d 4 (.mv (.const (.bool false))))]) .ret))))
def Yk :aM:=(.mk 1 20 [2] (.seq (.ops [(.d 2 (.mv (.const (.i 0))))]) (.seq (.ops [(.d 3 (.mv (.const (.i 0))))]) (.seq (.seq (.ops [(.d 4 (.mv (.const (.i 0))))]) (.block 0 (.loop (.seq (.seq (.ops [(.d 5 (.mv 4)),(.d 6 (.mv 0)),(.d 7 (.qx 6)),(.d 8 (.bin .lss 5 7))]) (.cond 8 .skip (.exit 0))) (.seq (.block 1 (.ops [(.d 11 (.mv 3)),(.d 12 (.bin .mul (.const (.i 10)) 11)),(.d 13 (.mv 0)),(.d 14 (.mv 4)),(.d 15 (.zf 13 14)),(.d 16 (.bin .sub 15 (.const (.int .u8 48)))),(.d 17 (.pz .i64 16)),(.d 18 (.bin .add 12 17)),(.d 3 (.mv 18))])) (.ops [(.d 9 (.mv 4)),(.d 10 (.bin .add 9 (.const (.i 1)))),(.d 4 (.mv 10))])))))) (.seq (.ops [(.d 19 (.mv 3)),(.d 2 (.mv 19))]) .ret)))))
def Pp :aM:=(.mk 3 59 [(.cell 6 (some 4))] (.seq (.ops [(.d 3 (.box 109 0)),(.d 5 (.box 109 2)),(.d 6 (.alloc [(.i 0),(.str []),.nl,.nl] 109))]) (.seq (.ops [(.d 7 (.mv (.const (.i 0))))]) (.seq (.block 0 (.loop (.seq (.seq (.ops [(.d 10 (.mv 7)),(.d 11 (.aB 2 3)),(.d 12 (.load none 11)),(.d 13 (.jo 12)),(.d 14 (.bin .lss 10 13)),(.d 15 (.mv 14)),(.g 16 (.aB 2 3) 15 true),(.g 17 (.load none 16) 15 true),(.g 18 (.mv 7) 15 true),(.g 19 (.aV 1 17 18) 15 true),(.g 20 (.load none 19) 15 true),(.g 21 (.mv 1) 15 true),(.g 22 (.bin .lss 20 21) 15 true),(.d 23 (.pick 15 22 (.const (.bool false))))]) (.cond 23 .skip (.exit 0))) (.block 1 (.ops [(.d 24 (.mv 7)),(.d 25 (.bin .add 24 (.const (.i 1)))),(.d 7 (.mv 25))]))))) (.seq (.ops [(.d 26 (.lit 1 16 [] 0 [])),(.d 27 (.aB 2 3)),(.d 28 (.load none 27)),(.d 29 (.mv 7)),(.d 30 (.yK 1 28 none (some 29))),(.d 31 (.append 1 16 10 26 30)),(.d 8 (.mv 31))]) (.seq (.ops [(.d 32 (.lit 4 72 [] 0 [])),(.d 33 (.aB 3 3)),(.d 34 (.load none 33)),(.d 35 (.mv 7)),(.d 36 (.yK 4 34 none (some 35))),(.d 37 (.append 4 72 109 32 36)),(.d 9 (.mv 37))]) (.seq (.ops [(.d 38 (.mv 8)),(.d 39 (.mv 1)),(.d 40 (.lit 1 16 [] 1 [(0,39)])),(.d 41 (.append 1 16 10 38 40)),(.d 8 (.mv 41))]) (.seq (.ops [(.d 42 (.mv 9)),(.d 43 (.load (some 4) 5)),(.d 44 (.lit 4 72 [] 1 [(0,43)])),(.d 45 (.append 4 72 109 42 44)),(.d 9 (.mv 45))]) (.seq (.draw [(.d 46 (.mv 8)),(.d 47 (.aB 2 3)),(.d 48 (.load none 47)),(.d 49 (.mv 7)),(.d 50 (.yK 1 48 (some 49) none)),(.d 52 (.mv 9)),(.d 53 (.aB 3 3)),(.d 54 (.load none 53)),(.d 55 (.mv 7)),(.d 56 (.yK 4 54 (some 55) none))] [(.d 51 (.append 1 16 10 46 50)),(.d 57 (.append 4 72 109 52 56)),(.d 58 (.build [(.i 0),(.str []),.nl,.nl] [(0,(1,(.const (.i 5)))),(2,(1,51)),(3,(1,57))])),(.n (.store 4 6 58))]) .ret)))))))))
end Go.Ag
/- Package cupelref04: the document's tokens. -/
namespace Go.Ag
open Go
variable {T : Tab} {L : Lnk}
abbrev Bytes :=List UInt8
def inA (c:UInt8) (s:Bytes):Bool:=s.any (· ==c)
theorem YU {s:Bytes} {k:Nat} (h:k<s.length):s[((k:Nat):Int).toNat]?=some s[k]:=by rw[Int.toNat_natCast];exact List.getElem?_eq_getElem h
theorem oZ {s:Bytes} {k:Nat} {P:UInt8→Prop} (h:k<s.length) (hp:P s[k]):0≤(k:Int)∧(match s[((k:Nat):Int).toNat]? with
  |some c=>P c
  |none=>False):=⟨by omega,by rw[YU h];exact hp⟩
theorem dz {a b:Nat} (h:a<b):decide ((a:Int)<(b:Int))=true:=by simp;omega
theorem bU {a b:Nat} (h:b≤a):decide ((a:Int)<(b:Int))=false:=by simp;omega
theorem ru (h79:T.has 79 Le) (c:UInt8) (s:Bytes) (hs:s.length<2^62):Pure T.L 79 [.int .u8 c.toNat,.str s] (.bool (inA c s)):=by
 refine Pure.run (fun y hy=>by simp only[List.mem_cons,List.not_mem_nil,or_false]at hy;rcases hy with rfl|rfl<;>constructor) (.bool _) (Cn h79 (by simp[Le]) ?_);conv=>whnf
 intro I hI hG
 have key:∀(d k:Nat) (e:Env),s.length-k=d→k≤s.length→inA c s=inA c (s.drop k)→I (gB e [(0,.int .u8 c.toNat),(1,.str s),(5,.int .i64 k)]) []:=by
  intro d
  induction d with
  |zero=>
   intro k e hd hk hv;obtain rfl:k=s.length:=by omega
   apply hI;conv=>whnf
   rw[bU (Nat.le_refl _)];conv=>whnf
   rw[hv,List.drop_length];exact aH (Weak.refl _)
  |succ d ih=>
   intro k e hd hk hv;have hlt:k<s.length:=by omega
   apply hI;conv=>whnf
   rw[dz hlt];conv=>whnf
   refine oZ hlt ?_;conv=>whnf
   rw[oC,List.drop_eq_getElem_cons hlt]at*;simp only[inA,List.any_cons]at hv;cases hc:(s[k]==c)
   ·conv=>whnf
    refine inv_of [(0,.int .u8 c.toNat),(1,.str s),(5,.int .i64 ((k+1:Nat):Int))] ⟨rfl,rfl,add1 (by omega),trivial⟩ (ih (k+1) _ (by omega) (by omega) ?_);rw[hc,Bool.false_or]at hv;exact hv
   ·conv=>whnf
    rw[hc,Bool.true_or]at hv;rw[show inA c s=true from hv];exact aH (Weak.refl _)
 exact inv_of [(0,.int .u8 c.toNat),(1,.str s),(5,.int .i64 0)] ⟨rfl,rfl,rfl,trivial⟩ (key s.length 0 _ rfl (by omega) rfl)
def iI (p:UInt8→Bool) (src:Bytes) (from_:Nat):Nat:=from_+((src.drop from_).takeWhile p).length
def bR (src:Bytes) (from_:Nat) (some:Bytes):Nat:=iI (inA · some) src from_
def eZ (src:Bytes) (from_:Nat) (some:Bytes):Nat:=iI (fun c=> !inA c some) src from_
theorem rY {p:UInt8→Bool} {src:Bytes} {k:Nat} (h:k<src.length) (hp:p src[k]=true):iI p src k=iI p src (k+1):=by
 unfold iI;rw[List.drop_eq_getElem_cons h,List.takeWhile_cons_of_pos hp];simp;omega
theorem G9 {p:UInt8→Bool} {src:Bytes} {k:Nat} (h:k<src.length) (hp:p src[k]=false):iI p src k=k:=by
 unfold iI;rw[List.drop_eq_getElem_cons h,List.takeWhile_cons_of_neg (by simp[hp])];simp
theorem CS {p:UInt8→Bool} {src:Bytes} {k:Nat} (h:src.length≤k):iI p src k=k:=by
 unfold iI;rw[List.drop_eq_nil_of_le h];simp
theorem lQ {p:UInt8→Bool} {src:Bytes} {k:Nat} (h:k≤src.length):k≤iI p src k∧iI p src k≤src.length:=by
 unfold iI;have:=(List.takeWhile_prefix p (l:=src.drop k)).length_le;simp only[List.length_drop]at this;omega
theorem BQ {p:UInt8→Bool} {src:Bytes} {k:Nat} (h:k<src.length) (hp:p src[k]=true):k<iI p src k:=by
 rw[rY h hp];have:=(lQ (p:=p) (src:=src) (k:=k+1) (by omega)).1;omega
theorem Cx (h79:T.has 79 Le) (h81:T.has 81 Rp) (src some:Bytes) (fr:Nat) (hs:src.length<2^62) (hm:some.length<2^62) (hf:fr≤src.length):
  Pure T.L 81 [.str src,.int .i64 fr,.str some] (.int .i64 (bR src fr some)):=by
 refine Pure.run (fun y hy=>by simp only[List.mem_cons,List.not_mem_nil,or_false]at hy;rcases hy with rfl|rfl|rfl<;>constructor) (.int _ _) (Cn h81 (by simp[Rp]) ?_);conv=>whnf
 intro I hI hG
 have key:∀(d k:Nat) (e:Env),src.length-k=d→k≤src.length→bR src fr some=bR src k some→I (gB e [(0,.str src),(1,.int .i64 k),(2,.str some)]) []:=by
  intro d
  induction d with
  |zero=>
   intro k e hd hk hv;obtain rfl:k=src.length:=by omega
   apply hI;conv=>whnf
   rw[bU (Nat.le_refl _)];conv=>whnf
   rw[hv,bR,CS (Nat.le_refl _)];exact aH (Weak.refl _)
  |succ d ih=>
   intro k e hd hk hv;have hlt:k<src.length:=by omega
   apply hI;conv=>whnf
   rw[dz hlt];conv=>whnf
   refine oZ hlt ?_;conv=>whnf
   refine(ru h79 src[k] some hm).to ?_;conv=>whnf
   cases hc:inA src[k] some
   ·conv=>whnf
    rw[hv,bR,G9 hlt hc];exact aH (Weak.refl _)
   ·conv=>whnf
    refine inv_of [(0,.str src),(1,.int .i64 ((k+1:Nat):Int)),(2,.str some)] ⟨rfl,add1 (by omega),rfl,trivial⟩ (ih (k+1) _ (by omega) (by omega) ?_);rw[hv,bR,rY hlt hc];rfl
 exact inv_of [(0,.str src),(1,.int .i64 fr),(2,.str some)] ⟨rfl,rfl,rfl,trivial⟩ (key _ fr _ rfl hf rfl)
theorem Cz (h79:T.has 79 Le) (h80:T.has 80 Rq) (src some:Bytes) (fr:Nat) (hs:src.length<2^62) (hm:some.length<2^62) (hf:fr≤src.length):
  Pure T.L 80 [.str src,.int .i64 fr,.str some] (.int .i64 (eZ src fr some)):=by
 refine Pure.run (fun y hy=>by simp only[List.mem_cons,List.not_mem_nil,or_false]at hy;rcases hy with rfl|rfl|rfl<;>constructor) (.int _ _) (Cn h80 (by simp[Rq]) ?_);conv=>whnf
 intro I hI hG
 have key:∀(d k:Nat) (e:Env),src.length-k=d→k≤src.length→eZ src fr some=eZ src k some→I (gB e [(0,.str src),(1,.int .i64 k),(2,.str some)]) []:=by
  intro d
  induction d with
  |zero=>
   intro k e hd hk hv;obtain rfl:k=src.length:=by omega
   apply hI;conv=>whnf
   rw[bU (Nat.le_refl _)];conv=>whnf
   rw[hv,eZ,CS (Nat.le_refl _)];exact aH (Weak.refl _)
  |succ d ih=>
   intro k e hd hk hv;have hlt:k<src.length:=by omega
   apply hI;conv=>whnf
   rw[dz hlt];conv=>whnf
   refine oZ hlt ?_;conv=>whnf
   refine(ru h79 src[k] some hm).to ?_;conv=>whnf
   cases hc:inA src[k] some
   ·conv=>whnf
    refine inv_of [(0,.str src),(1,.int .i64 ((k+1:Nat):Int)),(2,.str some)] ⟨rfl,add1 (by omega),rfl,trivial⟩ (ih (k+1) _ (by omega) (by omega) ?_);rw[hv,eZ,rY hlt (by simp[hc])];rfl
   ·conv=>whnf
    rw[hv,eZ,G9 hlt (by simp[hc])];exact aH (Weak.refl _)
 exact inv_of [(0,.str src),(1,.int .i64 fr),(2,.str some)] ⟨rfl,rfl,rfl,trivial⟩ (key _ fr _ rfl hf rfl)
def eY :List Bytes:=[[117,115,101],[116,121,112,101],[108,101,116],[105,110],[105,102],[116,104,101,110],[101,108,115,101],[102,117,110],[116,114,117,101],[102,97,108,115,101],[105,110,116],[98,111,111,108],[116,101,120,116]]
def qO (s:Bytes):Bool:=eY.any (· ==s)
def CK (l:List Bytes):List au:=l.map .str
theorem PK (h82:T.has 82 Ro) (s:Bytes):Pure T.L 82 [.str s] (.bool (qO s)):=by
 refine Pure.run (fun y hy=>by simp only[List.mem_cons,List.not_mem_nil,or_false]at hy;rcases hy with rfl;constructor) (.bool _) (Cn h82 (by simp[Ro]) ?_);conv=>whnf
 refine⟨fun p hp=>by simp only[List.mem_cons,List.not_mem_nil,or_false]at hp;rcases hp with rfl|rfl|rfl|rfl|rfl|rfl|rfl|rfl|rfl|rfl|rfl|rfl|rfl<;>exact⟨rfl,rfl⟩,?_⟩;conv=>whnf
 intro I hI hG
 have key:∀(d k:Nat) (e:Env),eY.length-k=d→k≤eY.length→qO s=(eY.drop k).any (· ==s)→I (gB e [(0,.str s),(3,.lst (CK eY) .full),(4,.int .i64 k)]) []:=by
  intro d
  induction d with
  |zero=>
   intro k e hd hk hv;obtain rfl:k=eY.length:=by omega
   apply hI;conv=>whnf
   rw[hv,List.drop_length];exact aH (Weak.refl _)
  |succ d ih=>
   intro k e hd hk hv;have hlt:k<eY.length:=by omega
   have hget:(CK eY)[((k:Nat):Int).toNat]?=some (.str eY[k]):=by
    rw[Int.toNat_natCast,CK,List.getElem?_map,List.getElem?_eq_getElem hlt];rfl
   apply hI;conv=>whnf
   rw[show decide ((k:Int)<((CK eY).length:Nat))=true from dz (by simpa[CK]using hlt)];conv=>whnf
   refine⟨by omega,?_⟩;rw[hget];refine⟨rfl,?_⟩;conv=>whnf
   rw[List.drop_eq_getElem_cons hlt,List.any_cons]at hv;cases hc:(eY[k]==s)
   ·conv=>whnf
    refine inv_of [(0,.str s),(3,.lst (CK eY) .full),(4,.int .i64 ((k+1:Nat):Int))] ⟨rfl,rfl,add1 (by have:eY.length=13:=rfl;omega),trivial⟩ (ih (k+1) _ (by omega) (by omega) ?_);rw[hc,Bool.false_or]at hv;exact hv
   ·conv=>whnf
    rw[hc,Bool.true_or]at hv;rw[hv];exact aH (Weak.refl _)
 exact inv_of [(0,.str s),(3,.lst (CK eY) .full),(4,.int .i64 0)] ⟨rfl,rfl,rfl,trivial⟩ (key _ 0 _ rfl (by omega) rfl)
end Go.Ag
/- Package cupelref04: Lex. -/
namespace Go.Ag
open Go
variable {T : Tab} {L : Lnk}
structure dA where
 kind:Int
 at_:Int
 text:Bytes
 deriving DecidableEq
structure bO where
 at_:Int
 code:Int
 name:Bytes
 deriving DecidableEq
def dA.av (t:dA):au:=.agg [.int .i64 t.kind,.int .i64 t.at_,.str t.text]
def bO.av (t:bO):au:=.agg [.int .i64 t.at_,.int .i64 t.code,.str t.name]
def wsL :Bytes:=[32,9,10,13]
def bD :Bytes:=[48,49,50,51,52,53,54,55,56,57]
def nE :Bytes:=[97,98,99,100,101,102,103,104,105,106,107,108,109,110,111,112,113,114,115,116,117,118,119,120,121,122,95]
def bW :Bytes:=[97,98,99,100,101,102,103,104,105,106,107,108,109,110,111,112,113,114,115,116,117,118,119,120,121,122,95,48,49,50,51,52,53,54,55,56,57]
def lu :Bytes:=[61,58,59,44,46,40,41,123,125,124,63]
def ku (src:Bytes) (i j:Nat):Bytes:=(src.take j).drop i
def bB (src:Bytes) (at_:Nat) (c:UInt8):Nat×List dA×List bO:=
 if inA c wsL=true then(at_+1,[],[])
 else if(c==35)=true then(eZ src at_ [10],[],[])
 else if inA c nE=true then(bR src at_ bW,[⟨if qO (ku src at_ (bR src at_ bW))=true then 2 else 1,at_,ku src at_ (bR src at_ bW)⟩],[])
 else if inA c bD=true then
  if 18<bR src at_ bD-at_ then(bR src at_ bD,[⟨3,at_,[48]⟩],[⟨at_,13,[]⟩])else(bR src at_ bD,[⟨3,at_,ku src at_ (bR src at_ bD)⟩],[])
 else if(c==34)=true then
  if src[eZ src (at_+1) [34,10]]?=some 34 then(eZ src (at_+1) [34,10]+1,[⟨4,at_,ku src (at_+1) (eZ src (at_+1) [34,10])⟩],[])
  else(eZ src (at_+1) [34,10],[],[⟨at_,1,[]⟩])
 else if(c==45)=true∧src[at_+1]?=some 62 then(at_+2,[⟨5,at_,[45,62]⟩],[])
 else if inA c lu=true then(at_+1,[⟨5,at_,ku src at_ (at_+1)⟩],[])
 else(at_+1,[],[⟨at_,1,[]⟩])
def iK (src:Bytes):Nat→Nat→List dA→List bO→List dA×List bO
 |0,_,l,d=>(l,d)
 |n+1,k,l,d=>match src[k]? with
  |some c=>iK src n (bB src k c).1 (l ++(bB src k c).2.1) (d ++(bB src k c).2.2)
  |none=>(l,d)
def fM (src:Bytes):List dA×List bO:=
 ((iK src src.length 0 [] []).1 ++[⟨6,src.length,[]⟩],(iK src src.length 0 [] []).2)
theorem tL (l:List dA):dB 3 (l.map dA.av):=fun x hx=>by
 obtain⟨t,_,rfl⟩:=List.mem_map.1 hx;exact⟨rfl,rfl⟩
theorem qR (l:List bO):dB 3 (l.map bO.av):=fun x hx=>by
 obtain⟨t,_,rfl⟩:=List.mem_map.1 hx;exact⟨rfl,rfl⟩
theorem bP {k:Nat} {x:au} (h:okB k x=true):dB k [x]:=fun y hy=>by simp only[List.mem_singleton]at hy;subst hy;exact z8 h
theorem EC {c:UInt8} (h:inA c nE=true):inA c bW=true:=by
 unfold inA at h⊢;rw[show bW=nE ++bD from rfl,List.any_append,h];rfl
theorem nQ (n:Nat) (x:dA):Low n x.av:=.agg _ fun y hy=>by simp only[List.mem_cons,List.not_mem_nil,or_false]at hy;rcases hy with rfl|rfl|rfl<;>constructor
theorem Ke (n:Nat) (x:bO):Low n x.av:=.agg _ fun y hy=>by simp only[List.mem_cons,List.not_mem_nil,or_false]at hy;rcases hy with rfl|rfl|rfl<;>constructor
theorem jO (n:Nat) (l:List dA) (tk:Tok) (h:nC n tk):Low n (.lst (l.map dA.av) tk):=.lst _ _ h fun x hx=>by
 obtain⟨t,_,rfl⟩:=List.mem_map.1 hx;exact nQ n t
theorem gM (n:Nat) (l:List bO) (tk:Tok) (h:nC n tk):Low n (.lst (l.map bO.av) tk):=.lst _ _ h fun x hx=>by
 obtain⟨t,_,rfl⟩:=List.mem_map.1 hx;exact Ke n t
theorem SS (h58:T.has 58 Uj) (h79:T.has 79 Le) (h80:T.has 80 Rq) (h81:T.has 81 Rp) (h82:T.has 82 Ro) (src:Bytes) (hs:src.length≤2^32):
  aC T.L 58 [.str src] [.dead] fun r H'=>r=.ret (.tup [.lst ((fM src).1.map dA.av) .none,.lst ((fM src).2.map bO.av) (bK (fM src).2.length 0)])∧H'=[bC (fM src).2.length 127]:=by
 have main:aC T.L 58 [.str src] ([aU.dead] ++List.replicate 1 .dead) fun r H1=>∃x J,r=.ret x∧Weak T.L x (.tup [.lst ((fM src).1.map dA.av) .none,.lst ((fM src).2.map bO.av) (bK (fM src).2.length 0)])∧H1=bC (fM src).2.length 127::J:=by
  refine aG h58 (by simp[Uj]) ?_
  have fin:∀(l:List dA) (d:List bO) (xs ds:List au),xs=l.map dA.av→ds=d.map bO.av→iK src src.length 0 [] []=(l,d)→∃x J,fE.ret (.tup [.lst (xs ++[au.agg [.int .i64 6,.int .i64 (src.length:Nat),.str []]]) (bK (xs ++[au.agg [.int .i64 6,.int .i64 (src.length:Nat),.str []]]).length 1),.lst ds (bK ds.length 0)])=.ret x∧
    Weak T.L x (.tup [.lst ((fM src).1.map dA.av) .none,.lst ((fM src).2.map bO.av) (bK (fM src).2.length 0)])∧
    [bC ds.length 127,bC (xs ++[au.agg [.int .i64 6,.int .i64 (src.length:Nat),.str []]]).length 86]=bC (fM src).2.length 127::J:=by
   intro l d xs ds hx hd hgo;have hla:fM src=(l ++[⟨6,src.length,[]⟩],d):=by unfold fM;rw[hgo]
   rw[hla];subst hx hd;refine⟨_,[_],rfl,Weak.tup ⟨?_,?_,trivial⟩,by rw[List.length_map]⟩
   ·rw[List.map_append];exact Weak.tok _ _
   ·rw[List.length_map];exact Weak.refl _
  conv=>whnf
  intro I hI hG
  have key:∀(n k:Nat) (e:Env) (l:List dA) (d:List bO) (xs ds:List au),src.length-k≤n→k≤src.length→xs=l.map dA.av→ds=d.map bO.av→xs.length≤k→ds.length≤k→iK src src.length 0 [] []=iK src n k l d→
    I (gB e [(0,.str src),(4,.lst xs (bK xs.length 1)),(5,.lst ds (bK ds.length 0)),(6,.int .i64 k)]) [bC ds.length 127,bC xs.length 86]:=by
   intro n
   induction n with
   |zero=>
    intro k e l d xs ds hn hk hx hd hxl hdl hgo;obtain rfl:k=src.length:=by omega
    apply hI;conv=>whnf
    rw[bU (Nat.le_refl _)];conv=>whnf
    have hsz:dB 3 xs:=by rw[hx];exact tL l
    refine dS (ys:=[.agg [.int .i64 6,.int .i64 (src.length:Nat),.str []]]) hsz (bP rfl) (by simp;omega) (by simp;omega) (by simp) rfl ?_;conv=>whnf
    exact fin l d xs ds hx hd (by rw[hgo];rfl)
   |succ n ih=>
    intro k e l d xs ds hn hk hx hd hxl hdl hgo;rcases Nat.lt_or_ge k src.length with hlt|hge
    ·apply hI
     conv=>whnf
     rw[dz hlt];conv=>whnf
     refine oZ hlt ?_;conv=>whnf
     have hgo':iK src src.length 0 [] []=iK src n (bB src k src[k]).1 (l ++(bB src k src[k]).2.1) (d ++(bB src k src[k]).2.2):=by
      rw[hgo,iK,List.getElem?_eq_getElem hlt]
     clear hgo;have hsl:dB 3 xs:=by rw[hx];exact tL l
     have hsd:dB 3 ds:=by rw[hd];exact qR d
     have next:∀(k':Nat) (ts:List dA) (us:List bO) (e':Env),bB src k src[k]=(k',ts,us)→k<k'→k'≤src.length→ts.length≤1→us.length≤1→
       fC e' [(0,.str src),(4,.lst (xs ++ts.map dA.av) (bK (xs ++ts.map dA.av).length 1)),(5,.lst (ds ++us.map bO.av) (bK (ds ++us.map bO.av).length 0)),(6,.int .i64 (k':Nat))]→
       I e' [bC (ds ++us.map bO.av).length 127,bC (xs ++ts.map dA.av).length 86]:=fun k' ts us e' hst hk1 hk2 ht hu he=>by
      rw[hst]at hgo';refine inv_of _ he (ih k' _ (l ++ts) (d ++us) _ _ (by omega) hk2 ?_ ?_ ?_ ?_ hgo')
      ·rw[hx,List.map_append]
      ·rw[hd,List.map_append]
      ·simp;omega
      ·simp;omega
     have same:∀(k':Nat) (e':Env),bB src k src[k]=(k',[],[])→k<k'→k'≤src.length→
       fC e' [(0,.str src),(4,.lst xs (bK xs.length 1)),(5,.lst ds (bK ds.length 0)),(6,.int .i64 (k':Nat))]→
       I e' [bC ds.length 127,bC xs.length 86]:=fun k' e' hst hk1 hk2 he=>by
      have:=next k' [] [] e' hst hk1 hk2 (by simp) (by simp) (by simpa using he);simpa using this
     have yU:∀(k':Nat) (tk:dA) (e':Env),bB src k src[k]=(k',[tk],[])→k<k'→k'≤src.length→
       fC e' [(0,.str src),(4,.lst (xs ++[tk.av]) (bK (xs ++[tk.av]).length 1)),(5,.lst ds (bK ds.length 0)),(6,.int .i64 (k':Nat))]→
       I e' [bC ds.length 127,bC (xs ++[tk.av]).length 86]:=fun k' tk e' hst hk1 hk2 he=>by
      have:=next k' [tk] [] e' hst hk1 hk2 (by simp) (by simp) (by rw[List.map_nil,List.append_nil];exact he);rw[List.map_nil,List.append_nil]at this;exact this
     have FR:∀(k':Nat) (u:bO) (e':Env),bB src k src[k]=(k',[],[u])→k<k'→k'≤src.length→
       fC e' [(0,.str src),(4,.lst xs (bK xs.length 1)),(5,.lst (ds ++[u.av]) (bK (ds ++[u.av]).length 0)),(6,.int .i64 (k':Nat))]→
       I e' [bC (ds ++[u.av]).length 127,bC xs.length 86]:=fun k' u e' hst hk1 hk2 he=>by
      have:=next k' [] [u] e' hst hk1 hk2 (by simp) (by simp) (by rw[List.map_nil,List.append_nil];exact he);rw[List.map_nil,List.append_nil]at this;exact this
     have Sz:∀(k':Nat) (tk:dA) (u:bO) (e':Env),bB src k src[k]=(k',[tk],[u])→k<k'→k'≤src.length→
       fC e' [(0,.str src),(4,.lst (xs ++[tk.av]) (bK (xs ++[tk.av]).length 1)),(5,.lst (ds ++[u.av]) (bK (ds ++[u.av]).length 0)),(6,.int .i64 (k':Nat))]→
       I e' [bC (ds ++[u.av]).length 127,bC (xs ++[tk.av]).length 86]:=fun k' tk u e' hst hk1 hk2 he=>next k' [tk] [u] e' hst hk1 hk2 (by simp) (by simp) he
     clear next
     have I5:∀{y:au} {tk0:Tok} {H:Heap} {K:au→Heap→Prop},okB 3 y=true→H[1]?=some (bC xs.length 86)→K (.lst (xs ++[y]) (bK (xs ++[y]).length 1)) (H.set 1 (bC (xs ++[y]).length 86))→lH 3 32 86 (.lst xs (bK xs.length 1)) (.lst [y] tk0) H K:=
      fun h1 h2 h3=>dS hsl (bP h1) (by simp;omega) (by simp;omega) (by simp) h2 h3
     have RD:∀{y:au} {tk0:Tok} {H:Heap} {K:au→Heap→Prop},okB 3 y=true→H[0]?=some (bC ds.length 127)→K (.lst (ds ++[y]) (bK (ds ++[y]).length 0)) (H.set 0 (bC (ds ++[y]).length 127))→lH 3 32 127 (.lst ds (bK ds.length 0)) (.lst [y] tk0) H K:=
      fun h1 h2 h3=>dS hsd (bP h1) (by simp;omega) (by simp;omega) (by simp) h2 h3
     obtain⟨c,hc⟩:∃c,src[k]=c:=⟨_,rfl⟩;rw[hc]at hgo' yU FR Sz same⊢;have a1:IntKind.i64.wrap ((k:Int)+1)=((k+1:Nat):Int):=by rw[IntWalk.i64_in _ (by omega)];omega
     rw[a1];refine(ru h79 c wsL (by decide)).to ?_;cases h1:inA c wsL
     ·conv=>whnf
      rw[show((c.toNat:Int)==35)=(c==35)from oC c 35];cases h2:(c==35)
      ·conv=>whnf
       refine(ru h79 c nE (by decide)).to ?_;cases h3:inA c nE
       ·conv=>whnf
        refine(ru h79 c bD (by decide)).to ?_;cases h4:inA c bD
        ·conv=>whnf
         rw[show((c.toNat:Int)==34)=(c==34)from oC c 34];cases h5:(c==34)
         ·conv=>whnf
          rw[show((c.toNat:Int)==45)=(c==45)from oC c 45]
          have sign:¬((c==45)=true∧src[k+1]?=some 62)→bB src k c=if inA c lu=true then(k+1,[⟨5,k,ku src k (k+1)⟩],[])else(k+1,[],[⟨k,1,[]⟩]):=fun h6=>by
           rw[bB,if_neg (by simp[h1]),if_neg (by simp[h2]),if_neg (by simp[h3]),if_neg (by simp[h4]),if_neg (by simp[h5]),if_neg h6]
          have rest:bB src k c=(if inA c lu=true then(k+1,[⟨5,k,ku src k (k+1)⟩],[])else(k+1,[],[⟨k,1,[]⟩]))→∀b,inA c lu=b→bB src k c=match b with
    |true=>(k+1,[⟨5,k,ku src k (k+1)⟩],[])
    |false=>(k+1,[],[⟨k,1,[]⟩]):=fun h b hb=>by
           rw[h];cases b
           ·rw[if_neg (by simp[hb])]
           ·rw[if_pos hb]
          cases h6:(c==45)
          ·have hst:=rest (sign (by simp[h6]))
           conv=>whnf
           refine(ru h79 c lu (by decide)).to ?_;cases h7:inA c lu
           ·conv=>whnf
            refine RD rfl rfl ?_;conv=>whnf
            exact FR _ ⟨k,1,_⟩ _ (hst _ h7) (by omega) hlt ⟨rfl,rfl,rfl,rfl,trivial⟩
           ·conv=>whnf
            refine⟨Nat.le_succ k,hlt,?_⟩;conv=>whnf
            refine I5 rfl rfl ?_;conv=>whnf
            exact yU _ ⟨5,k,_⟩ _ (hst _ h7) (by omega) hlt ⟨rfl,rfl,rfl,rfl,trivial⟩
          ·conv=>whnf
           rcases Nat.lt_or_ge (k+1) src.length with h8|h8
           ·rw[dz h8]
            conv=>whnf
            refine oZ h8 ?_;conv=>whnf
            rw[show((src[k+1].toNat:Int)==62)=(src[k+1]==62)from oC src[k+1] 62];cases h9:(src[k+1]==62)
            ·have hst:=rest (sign (by rw[List.getElem?_eq_getElem h8];intro e0;simp[Option.some.inj e0.2]at h9))
             conv=>whnf
             refine(ru h79 c lu (by decide)).to ?_;cases h7:inA c lu
             ·conv=>whnf
              refine RD rfl rfl ?_;conv=>whnf
              exact FR _ ⟨k,1,_⟩ _ (hst _ h7) (by omega) hlt ⟨rfl,rfl,rfl,rfl,trivial⟩
             ·conv=>whnf
              refine⟨Nat.le_succ k,hlt,?_⟩;conv=>whnf
              refine I5 rfl rfl ?_;conv=>whnf
              exact yU _ ⟨5,k,_⟩ _ (hst _ h7) (by omega) hlt ⟨rfl,rfl,rfl,rfl,trivial⟩
            ·have hst:bB src k c=(k+2,[⟨5,k,[45,62]⟩],[]):=by
              rw[bB,if_neg (by simp[h1]),if_neg (by simp[h2]),if_neg (by simp[h3]),if_neg (by simp[h4]),if_neg (by simp[h5]),if_pos ⟨h6,by rw[List.getElem?_eq_getElem h8,show src[k+1]=62 from by simpa using h9]⟩]
             conv=>whnf
             refine I5 rfl rfl ?_;conv=>whnf
             exact yU _ ⟨5,k,_⟩ _ hst (by omega) h8 ⟨rfl,rfl,rfl,add1 (by omega),trivial⟩
           ·have hst:=rest (sign (by rw[List.getElem?_eq_none h8];simp))
            rw[bU h8];conv=>whnf
            refine(ru h79 c lu (by decide)).to ?_;cases h7:inA c lu
            ·conv=>whnf
             refine RD rfl rfl ?_;conv=>whnf
             exact FR _ ⟨k,1,_⟩ _ (hst _ h7) (by omega) hlt ⟨rfl,rfl,rfl,rfl,trivial⟩
            ·conv=>whnf
             refine⟨Nat.le_succ k,hlt,?_⟩;conv=>whnf
             refine I5 rfl rfl ?_;conv=>whnf
             exact yU _ ⟨5,k,_⟩ _ (hst _ h7) (by omega) hlt ⟨rfl,rfl,rfl,rfl,trivial⟩
         ·conv=>whnf
          rw[a1];have w:k+1≤eZ src (k+1) [34,10]∧eZ src (k+1) [34,10]≤src.length:=lQ hlt;refine(Cz h79 h80 src [34,10] (k+1) (by omega) (by decide) hlt).to ?_
          have hst:bB src k c=if src[eZ src (k+1) [34,10]]?=some 34 then(eZ src (k+1) [34,10]+1,[⟨4,k,ku src (k+1) (eZ src (k+1) [34,10])⟩],[])else(eZ src (k+1) [34,10],[],[⟨k,1,[]⟩]):=by
           rw[bB,if_neg (by simp[h1]),if_neg (by simp[h2]),if_neg (by simp[h3]),if_neg (by simp[h4]),if_pos h5]
          generalize eZ src (k+1) [34,10]=E at w hst⊢;conv=>whnf
          rcases Nat.lt_or_ge E src.length with hE|hE
          ·rw[dz hE]
           conv=>whnf
           refine oZ hE ?_;conv=>whnf
           rw[show((src[E].toNat:Int)==34)=(src[E]==34)from oC src[E] 34];rw[List.getElem?_eq_getElem hE]at hst;cases h6:(src[E]==34)
           ·rw[if_neg (by intro e0;simp[Option.some.inj e0]at h6)]at hst
            conv=>whnf
            refine RD rfl rfl ?_;conv=>whnf
            exact FR _ ⟨k,1,_⟩ _ hst (by omega) w.2 ⟨rfl,rfl,rfl,rfl,trivial⟩
           ·rw[if_pos (by rw[show src[E]=34 from by simpa using h6])]at hst
            conv=>whnf
            rw[a1];refine⟨w.1,w.2,?_⟩;conv=>whnf
            refine I5 rfl rfl ?_;conv=>whnf
            exact yU _ ⟨4,k,_⟩ _ hst (by omega) hE ⟨rfl,rfl,rfl,add1 (by omega),trivial⟩
          ·rw[bU hE]
           rw[List.getElem?_eq_none hE,if_neg (by simp)]at hst;conv=>whnf
           refine RD rfl rfl ?_;conv=>whnf
           exact FR _ ⟨k,1,_⟩ _ hst (by omega) w.2 ⟨rfl,rfl,rfl,rfl,trivial⟩
        ·conv=>whnf
         have w:k≤bR src k bD∧bR src k bD≤src.length:=lQ hk;have w2:k<bR src k bD:=BQ (p:=(inA · bD)) (src:=src) hlt (by rw[hc];exact h4);refine(Cx h79 h81 src bD k (by omega) (by decide) hk).to ?_;conv=>whnf
         refine⟨w.1,w.2,?_⟩;conv=>whnf
         have hst:bB src k c=if 18<bR src k bD-k then(bR src k bD,[⟨3,k,[48]⟩],[⟨k,13,[]⟩])else(bR src k bD,[⟨3,k,ku src k (bR src k bD)⟩],[]):=by
          rw[bB,if_neg (by simp[h1]),if_neg (by simp[h2]),if_neg (by simp[h3]),if_pos h4]
         rw[show IntKind.i64.wrap (((bR src k bD:Nat):Int)-(k:Int))=((bR src k bD-k:Nat):Int)from by rw[IntWalk.i64_in _ (by omega)];omega];cases h5:decide (((bR src k bD-k:Nat):Int)>18)
         ·rw[if_neg (by simp at h5;omega)]at hst
          conv=>whnf
          refine I5 rfl rfl ?_;conv=>whnf
          exact yU _ ⟨3,k,_⟩ _ hst w2 w.2 ⟨rfl,rfl,rfl,rfl,trivial⟩
         ·rw[if_pos (by simp at h5;omega)]at hst
          conv=>whnf
          refine RD rfl rfl ?_;conv=>whnf
          refine I5 rfl rfl ?_;conv=>whnf
          exact Sz _ ⟨3,k,_⟩ ⟨k,13,_⟩ _ hst w2 w.2 ⟨rfl,rfl,rfl,rfl,trivial⟩
       ·conv=>whnf
        have w:k≤bR src k bW∧bR src k bW≤src.length:=lQ hk;have w2:k<bR src k bW:=BQ (p:=(inA · bW)) (src:=src) hlt (by rw[hc];exact EC h3);refine(Cx h79 h81 src bW k (by omega) (by decide) hk).to ?_;conv=>whnf
        refine⟨w.1,w.2,?_⟩;conv=>whnf
        refine(PK h82 _).to ?_
        have hst:∀b,qO (ku src k (bR src k bW))=b→bB src k c=(bR src k bW,[⟨if b=true then 2 else 1,k,ku src k (bR src k bW)⟩],[]):=fun b hb=>by
         rw[bB,if_neg (by simp[h1]),if_neg (by simp[h2]),if_pos h3,hb]
        cases hb:qO (List.drop ((k:Nat):Int).toNat (List.take ((bR src k bW:Nat):Int).toNat src))
        ·conv=>whnf
         refine⟨w.1,w.2,?_⟩;conv=>whnf
         refine I5 rfl rfl ?_;conv=>whnf
         exact yU _ ⟨1,k,_⟩ _ (hst _ hb) w2 w.2 ⟨rfl,rfl,rfl,rfl,trivial⟩
        ·conv=>whnf
         refine⟨w.1,w.2,?_⟩;conv=>whnf
         refine I5 rfl rfl ?_;conv=>whnf
         exact yU _ ⟨2,k,_⟩ _ (hst _ hb) w2 w.2 ⟨rfl,rfl,rfl,rfl,trivial⟩
      ·conv=>whnf
       have w:k≤eZ src k [10]∧eZ src k [10]≤src.length:=lQ hk;refine(Cz h79 h80 src [10] k (by omega) (by decide) hk).to ?_;conv=>whnf
       refine same (eZ src k [10]) _ (by rw[bB,if_neg (by simp[h1]),if_pos h2]) ?_ w.2 ⟨rfl,rfl,rfl,rfl,trivial⟩;exact BQ (p:=fun c=> !inA c [10]) hlt (by rw[hc,show c=35 from by simpa using h2];decide)
     ·conv=>whnf
      refine same (k+1) _ (by rw[bB,if_pos h1]) (by omega) hlt ⟨rfl,rfl,rfl,add1 (by omega),trivial⟩
    ·obtain rfl:k=src.length:=by omega
     apply hI;conv=>whnf
     rw[bU (Nat.le_refl _)];conv=>whnf
     have hsz:dB 3 xs:=by rw[hx];exact tL l
     refine dS (ys:=[.agg [.int .i64 6,.int .i64 (src.length:Nat),.str []]]) hsz (bP rfl) (by simp;omega) (by simp;omega) (by simp) rfl ?_;conv=>whnf
     exact fin l d xs ds hx hd (by rw[hgo,iK,List.getElem?_eq_none (Nat.le_refl _)])
  exact inv_of [(0,.str src),(4,.lst [] .nil),(5,.lst [] .nil),(6,.int .i64 0)] ⟨rfl,rfl,rfl,rfl,trivial⟩ (key src.length 0 _ [] [] [] [] (by omega) (by omega) rfl rfl (by simp) (by simp) rfl)
 refine(aC.gcW (Q:=fun z H'=>z=(.tup [.lst ((fM src).1.map dA.av) .none,.lst ((fM src).2.map bO.av) (bK (fM src).2.length 0)])∧H'=[bC (fM src).2.length 127])
  ((aC.Gp 1 main).mono fun r H1 ⟨x,J,e1,e2,e3⟩=>?_)).mono fun r H1 ⟨z,e1,_,e2,e3⟩=>⟨by rw[e1,e2],e3⟩
 refine⟨x,_,[bC (fM src).2.length 127],[bC (fM src).2.length 127],J,by rw[e3];rfl,e1,e2,?_,rfl,rfl,fun i o o' h1 h2=>by rw[h1]at h2;cases h2;exact bJ.refl o,fun o ho=>?_,rfl,rfl⟩
 ·refine .tup _ fun x hx=>?_
  simp only[List.mem_cons,List.not_mem_nil,or_false]at hx;rcases hx with rfl|rfl
  ·exact jO _ _ _ trivial
  ·exact gM _ _ _ (dO (by simp))
 ·simp only[List.mem_singleton]at ho;subst ho;exact bG _ _ _
end Go.Ag
/- Package cupelref05: the reader, its small methods. -/
namespace Go.Ag
open Go
variable {T : Tab} {L : Lnk}
inductive TA where
 |mk (kind:Int) (name:Bytes) (names:List Bytes) (l:List TA)
inductive EA where
 |mk (kind at_:Int) (name:Bytes) (n:Int) (names:List Bytes) (l:List EA) (ts:List TA)
structure dV where
 kind:Int
 at_:Int
 name:Bytes
 ts:List TA
 es:List EA
def aO (l:List Bytes):List au:=l.map .str
mutual
def TA.av :TA→au
 |.mk k n ns l=>.agg [.int .i64 k,.str n,.lst (aO ns) .none,.lst (TA.avs l) .none]
def TA.avs :List TA→List au
 |[]=>[]
 |t::l=>t.av::TA.avs l
end
mutual
def EA.av :EA→au
 |.mk k p n m ns l ts=>.agg [.int .i64 k,.int .i64 p,.str n,.int .i64 m,.lst (aO ns) .none,.lst (EA.avs l) .none,.lst (TA.avs ts) .none]
def EA.avs :List EA→List au
 |[]=>[]
 |t::l=>t.av::EA.avs l
end
def dV.av (d:dV):au:=.agg [.int .i64 d.kind,.int .i64 d.at_,.str d.name,.lst (TA.avs d.ts) .none,.lst (EA.avs d.es) .none]
theorem dQ (n:Nat) (l:List Bytes) (tk:Tok) (h:nC n tk):Low n (.lst (aO l) tk):=.lst _ _ h fun x hx=>by
 obtain⟨s,_,rfl⟩:=List.mem_map.1 hx;exact .str s
theorem aQ (n : Nat) (t : TA) : Low n t.av := TA.rec (motive_1 := fun t => Low n t.av) (motive_2 := fun l => ∀ x ∈ TA.avs l, Low n x)
 (fun k nm ns l ih => .agg _ fun y hy => by
  simp only [List.mem_cons, List.not_mem_nil, or_false] at hy
  rcases hy with rfl | rfl | rfl | rfl
  ·exact .int _ _
  ·exact .str _
  ·exact dQ n ns _ trivial
  ·exact .lst _ _ trivial ih)
 (fun x hx => by cases hx) (fun t l h1 h2 x hx => by
  rcases List.mem_cons.1 hx with rfl | hx
  ·exact h1
  ·exact h2 x hx) t
theorem aY (n:Nat):∀(l:List TA),∀x∈TA.avs l,Low n x
 |[],x,hx=>by cases hx
 |t::l,x,hx=>by
  rcases List.mem_cons.1 hx with rfl|hx
  ·exact aQ n t
  ·exact aY n l x hx
theorem iN (n : Nat) (t : EA) : Low n t.av := EA.rec (motive_1 := fun t => Low n t.av) (motive_2 := fun l => ∀ x ∈ EA.avs l, Low n x)
 (fun k p nm m ns l ts ih => .agg _ fun y hy => by
  simp only [List.mem_cons, List.not_mem_nil, or_false] at hy
  rcases hy with rfl | rfl | rfl | rfl | rfl | rfl | rfl
  ·exact .int _ _
  ·exact .int _ _
  ·exact .str _
  ·exact .int _ _
  ·exact dQ n ns _ trivial
  ·exact .lst _ _ trivial ih
  ·exact .lst _ _ trivial (aY n ts))
 (fun x hx => by cases hx) (fun t l h1 h2 x hx => by
  rcases List.mem_cons.1 hx with rfl | hx
  ·exact h1
  ·exact h2 x hx) t
theorem wD (n:Nat):∀(l:List EA),∀x∈EA.avs l,Low n x
 |[],x,hx=>by cases hx
 |t::l,x,hx=>by
  rcases List.mem_cons.1 hx with rfl|hx
  ·exact iN n t
  ·exact wD n l x hx
theorem gL :∀(l:List TA),dB 4 (TA.avs l)
 |[],x,hx=>by cases hx
 |.mk k n ns ll::l,x,hx=>by
  rcases List.mem_cons.1 hx with rfl|hx
  ·exact z8 (by rw[TA.av];rfl)
  ·exact gL l x hx
theorem zS :∀(l:List EA),dB 7 (EA.avs l)
 |[],x,hx=>by cases hx
 |.mk k p n m ns ll ts::l,x,hx=>by
  rcases List.mem_cons.1 hx with rfl|hx
  ·exact z8 (by rw[EA.av];rfl)
  ·exact zS l x hx
theorem jC (a b:List TA):TA.avs (a ++b)=TA.avs a ++TA.avs b:=by
 induction a with
 |nil=>rfl
 |cons x a ih=>rw[List.cons_append,TA.avs,TA.avs,ih];rfl
theorem Eh (a b:List EA):EA.avs (a ++b)=EA.avs a ++EA.avs b:=by
 induction a with
 |nil=>rfl
 |cons x a ih=>rw[List.cons_append,EA.avs,EA.avs,ih];rfl
theorem bY (a:List TA):(TA.avs a).length=a.length:=by
 induction a with
 |nil=>rfl
 |cons x a ih=>rw[TA.avs,List.length_cons,ih];rfl
theorem OQ (a:List EA):(EA.avs a).length=a.length:=by
 induction a with
 |nil=>rfl
 |cons x a ih=>rw[EA.avs,List.length_cons,ih];rfl
structure RS where
 toks:List dA
 i:Nat
 diags:List bO
 bad:Bool
def sZ :dA:=⟨0,0,[]⟩
def RS.tok (s:RS):dA:=s.toks.getD s.i sZ
def RS.pot (s:RS):Nat:=s.diags.length+2*(s.toks.length-s.i)+if s.bad then 0 else 1
def yT (s:Bytes):Prop:=s≠[]∧s.length≤18∧∀c∈s,48≤c.toNat∧c.toNat≤57
structure RS.ok (s:RS):Prop where
 lt:s.i<s.toks.length
 more:∀j t,s.toks[j]?=some t→t.kind≠6→j+1<s.toks.length
 len:s.toks.length≤2^33
 txt:∀t∈s.toks,t.text.length≤2^40
 room:s.pot≤2^35
 named:∀t∈s.toks,t.kind=1→t.text≠[]
 num:∀t∈s.toks,t.kind=3→yT t.text
def j6 (s:RS):aU:=.cells [.lst (s.toks.map dA.av) .none,.int .i64 s.i,.lst (s.diags.map bO.av) (bK s.diags.length 0),.bool s.bad] 83
def gI (s:RS):aU:=bC s.diags.length 127
theorem Dr (s:RS):bI 2 (j6 s):=fun x hx=>by
 simp only[List.mem_cons,List.not_mem_nil,or_false]at hx;rcases hx with rfl|rfl|rfl|rfl
 ·exact jO _ _ _ trivial
 ·exact .int _ _
 ·exact gM _ _ _ (dO (by omega))
 ·exact .bool _
theorem nH {n:Nat} (h:0<n) (s:RS):bI n (j6 s):=dH ⟨jO _ _ _ trivial,.int _ _,gM _ _ _ (dO h),.bool _,trivial⟩
def RC (L:Lnk) (f:Nat) (args:List au) (s:RS) (y:au) (s':RS):Prop:=xJ L f (.ptr 1 0::args) (gI s) (j6 s) y (gI s') (j6 s')
theorem RC.of {f:Nat} {args:List au} {s s':RS} {y:au} (k:Nat) (hy:Low 2 y)
  (h:aC L f (.ptr 1 0::args) ([gI s,j6 s] ++List.replicate k .dead) fun r H1=>∃x,r=.ret x∧Weak L x y∧H1.take 2=[gI s',j6 s']):RC L f args s y s':=
 xJ.of k hy (bG _ _ _) (Dr s') (h.mono fun r H1 ⟨x,e1,e2,e3⟩=>⟨x,H1.drop 2,e1,e2,by
  conv=>lhs;rw[←List.take_append_drop 2 H1,e3]
  rfl⟩)
theorem RC.to {f:Nat} {args:List au} {s s':RS} {y:au} (h:RC L f args s y s') (hargs:∀x∈args,Low 2 x) (hy:Low 2 y) {H:Heap} {K KP:au→Heap→Prop} (J:Heap) (hH:H=gI s::j6 s::J)
  (hk:K y (gI s'::j6 s'::J)):aC L f (.ptr 1 0::args) H (eB K KP):=by
 subst hH;refine(xJ.at h (fun x hx=>?_) (bG _ _ _) (Dr s) hy (bG _ _ _) (Dr s') J).mono fun r H' ⟨e1,e2⟩=>by subst e1 e2;exact hk
 rcases List.mem_cons.1 hx with rfl|hx
 ·exact .ptr _ _ (by omega)
 ·exact hargs x hx
theorem uP {s:RS} (h:s.ok):s.toks[s.i]?=some s.tok:=by
 unfold RS.tok;rw[List.getD_eq_getElem?_getD,List.getElem?_eq_getElem h.lt];rfl
theorem jM {s:RS} (h:s.ok) {P:au→Prop} (hp:P (.agg [.int .i64 s.tok.kind,.int .i64 s.tok.at_,.str s.tok.text])):0≤(s.i:Int)∧(match(s.toks.map dA.av)[((s.i:Nat):Int).toNat]? with
  |some y=>y.cells.length=3∧P y
  |none=>False):=⟨by omega,by rw[Int.toNat_natCast,List.getElem?_map,uP h];exact⟨rfl,hp⟩⟩
def isR (s:RS) (w:Bytes):Bool:= !s.bad&&((s.tok.kind==2||s.tok.kind==5)&&s.tok.text==w)
def cZ (s:RS) (code:Int):RS:=if s.bad then s else{s with diags:=s.diags ++[⟨s.tok.at_,code,if code=2 then s.tok.text else[]⟩],bad:=true}
def aD (s:RS) (w:Bytes):RS:=if isR s w then{s with i:=s.i+1}else cZ s 2
def aK (s:RS):dA×RS:=if s.bad then(sZ,s)else if s.tok.kind=1 then(s.tok,{s with i:=s.i+1})else(sZ,cZ s 2)
theorem Ca (h41:T.has 41 Ym) (s:RS) (hs:s.ok) (w:Bytes):RC T.L 41 [.str w] s (.bool (isR s w)) s:=by
 refine RC.of 0 (.bool _) (aG h41 (by simp[Ym]) ?_);have hv:isR s w=(!s.bad&&((s.tok.kind==2||s.tok.kind==5)&&s.tok.text==w)):=rfl;rw[hv];clear hv;conv=>whnf
 refine jM hs ?_;conv=>whnf
 cases s.bad
 ·conv=>whnf
  cases s.tok.kind==2
  ·conv=>whnf
   cases s.tok.kind==5
   ·conv=>whnf
    exact⟨_,rfl,Weak.refl _,rfl⟩
   ·conv=>whnf
    exact⟨_,rfl,Weak.refl _,rfl⟩
  ·conv=>whnf
   exact⟨_,rfl,Weak.refl _,rfl⟩
 ·conv=>whnf
  exact⟨_,rfl,Weak.refl _,rfl⟩
theorem zD {s:RS} (hs:s.ok) (d:bO) {y:au} (hy:y=d.av) {tk0:Tok} {H:Heap} {K:au→Heap→Prop} (h0:H[0]?=some (gI s))
  (h:K (.lst ((s.diags ++[d]).map bO.av) (bK (s.diags ++[d]).length 0)) (H.set 0 (bC (s.diags ++[d]).length 127))):lH 3 32 127 (.lst (s.diags.map bO.av) (bK s.diags.length 0)) (.lst [y] tk0) H K:=by
 have hl:s.diags.length≤2^35:=by have:=hs.room;unfold RS.pot at this;omega
 have e1:s.diags.length=(s.diags.map bO.av).length:=by simp
 have:=dS (xs:=s.diags.map bO.av) (ys:=[y]) (k:=3) (bytes:=32) (t:=127) (id:=0) (tk0:=tk0) (H:=H) (K:=K) (qR _) (bP (by rw[hy];rfl)) (by simp;omega) (by simp;omega) (by simp) (by rw[←e1];exact h0) (by
  rw[hy];rw[List.map_append,List.length_append,e1]at h;rw[List.length_append]
  exact h)
 rw[←e1]at this;exact this
theorem Q6 (h60:T.has 60 Yl) (s:RS) (hs:s.ok) (code:Int):RC T.L 60 [.int .i64 code] s (.tup []) (cZ s code):=by
 refine RC.of 0 (.tup _ fun x hx=>by cases hx) (aG h60 (by simp[Yl]) ?_);cases hb:s.bad
 ·have hv:cZ s code={s with diags:=s.diags ++[⟨s.tok.at_,code,if code=2 then s.tok.text else[]⟩],bad:=true}:=by unfold cZ;rw[hb];rfl
  rw[hv];clear hv;conv=>whnf
  rw[hb];conv=>whnf
  refine jM hs ?_;conv=>whnf
  cases h2:(code==2)
  ·rw[if_neg (by simpa using h2)]
   conv=>whnf
   refine zD hs ⟨s.tok.at_,code,[]⟩ rfl rfl ?_;conv=>whnf
   exact⟨_,rfl,Weak.refl _,rfl⟩
  ·rw[if_pos (by simpa using h2)]
   conv=>whnf
   refine zD hs ⟨s.tok.at_,code,s.tok.text⟩ rfl rfl ?_;conv=>whnf
   exact⟨_,rfl,Weak.refl _,rfl⟩
 ·have hv:cZ s code=s:=by unfold cZ;rw[hb];rfl
  rw[hv];conv=>whnf
  rw[hb];conv=>whnf
  exact⟨_,rfl,Weak.refl _,rfl⟩
structure RS.le (s s':RS):Prop where
 toks:s'.toks=s.toks
 i:s.i≤s'.i
 lt:s'.i<s.toks.length
 pot:s'.pot≤s.pot
theorem RS.le.refl {s:RS} (h:s.ok):s.le s:=⟨rfl,Nat.le_refl _,h.lt,Nat.le_refl _⟩
theorem RS.le.trans {a b c:RS} (h:a.le b) (h':b.le c):a.le c:=⟨h'.toks.trans h.toks,Nat.le_trans h.i h'.i,by rw[←h.toks];exact h'.lt,Nat.le_trans h'.pot h.pot⟩
theorem RS.ok.of {s s':RS} (hs:s.ok) (h:s.le s'):s'.ok:=⟨by rw[h.toks];exact h.lt,by rw[h.toks];exact hs.more,by rw[h.toks];exact hs.len,by rw[h.toks];exact hs.txt,Nat.le_trans h.pot hs.room,by rw[h.toks];exact hs.named,by rw[h.toks];exact hs.num⟩
def RS.rem (s:RS):Nat:=s.toks.length-s.i
theorem RS.le.rem {s s':RS} (h:s.le s'):s'.rem≤s.rem:=by unfold RS.rem;rw[h.toks];have:=h.i;omega
theorem kV {s:RS} (hs:s.ok) (code:Int):s.le (cZ s code):=by
 unfold cZ;cases hb:s.bad
 ·refine⟨rfl,Nat.le_refl _,hs.lt,?_⟩
  simp only[RS.pot,hb];simp;omega
 ·exact RS.le.refl hs
theorem mV {s:RS} (hs:s.ok) (h:s.tok.kind≠6):s.le {s with i:=s.i+1}:=
 ⟨rfl,Nat.le_succ _,hs.more s.i s.tok (uP hs) h,by simp only[RS.pot];omega⟩
theorem wG {s:RS} {w:Bytes} (h:isR s w=true):s.tok.kind≠6∧s.bad=false∧s.tok.text=w∧(s.tok.kind=2∨s.tok.kind=5):=by
 simp only[isR,Bool.and_eq_true,Bool.or_eq_true,beq_iff_eq,Bool.not_eq_true']at h;refine⟨by rcases h.2.1 with h|h<;>omega,h.1,h.2.2,h.2.1⟩
theorem aL {s:RS} (hs:s.ok) (w:Bytes):s.le (aD s w):=by
 unfold aD;split
 ·rename_i h;exact mV hs (wG h).1
 ·exact kV hs 2
theorem bS {s:RS} (hs:s.ok):s.le (aK s).2:=by
 unfold aK;split
 ·exact RS.le.refl hs
 ·split
  ·rename_i h;exact mV hs (by omega)
  ·exact kV hs 2
theorem dD {n:Nat} {x:au} (h:Low n x):∀y∈[x],Low n y:=fun y hy=>by simp only[List.mem_singleton]at hy;subst hy;exact h
theorem fK {n:Nat}:∀y∈([]:List au),Low n y:=fun y hy=>by cases hy
theorem bH {n:Nat}:Low n (.tup []):=.tup _ fK
theorem addN {k:Nat} (h:k≤2^60):IntKind.i64.wrap ((k:Int)+1)=((k+1:Nat):Int):=by rw[IntWalk.i64_in _ (by omega)];omega
theorem RS.ok.i {s:RS} (h:s.ok):s.i≤2^60:=by have:=h.lt;have:=h.len;omega
structure uF (T:Tab):Prop where
 h41:T.has 41 Ym
 h60:T.has 60 Yl
 h59:T.has 59 ZH
 h61:T.has 61 ZG
 h62:T.has 62 ZF
 h83:T.has 83 ZC
 h96:T.has 96 ZB
 h85:T.has 85 Yj
 Q0:T.has 104 Pp
 h42:T.has 42 ZI
 h63:T.has 63 ZE
 h84:T.has 84 Yk
 h40:T.has 40 ZJ
theorem uF.is (F:uF T) {s:RS} (hs:s.ok) (w:Bytes) {H:Heap} {K KP:au→Heap→Prop} (J:Heap) (hH:H=gI s::j6 s::J) (hk:K (.bool (isR s w)) (gI s::j6 s::J)):
  aC T.L 41 [.ptr 1 0,.str w] H (eB K KP):=(Ca F.h41 s hs w).to (dD (.str w)) (.bool _) J hH hk
theorem uF.give (F:uF T) {s:RS} (hs:s.ok) (c:Int) {H:Heap} {K KP:au→Heap→Prop} (J:Heap) (hH:H=gI s::j6 s::J) (hk:K (.tup []) (gI (cZ s c)::j6 (cZ s c)::J)):
  aC T.L 60 [.ptr 1 0,.int .i64 c] H (eB K KP):=(Q6 F.h60 s hs c).to (dD (.int _ _)) bH J hH hk
theorem P6 (F:uF T) (s:RS) (hs:s.ok) (w:Bytes):RC T.L 59 [.str w] s (.tup []) (aD s w):=by
 refine RC.of 0 bH (aG F.h59 (by simp[ZH]) ?_);conv=>whnf
 refine F.is hs w [] rfl ?_;cases h:isR s w
 ·conv=>whnf
  refine F.give hs 2 [] rfl ?_;conv=>whnf
  rw[show aD s w=cZ s 2 from by unfold aD;rw[h];rfl];exact⟨_,rfl,Weak.refl _,rfl⟩
 ·conv=>whnf
  rw[addN hs.i];rw[show aD s w={s with i:=s.i+1}from by unfold aD;rw[h];rfl];exact⟨_,rfl,Weak.refl _,rfl⟩
theorem uF.take (F:uF T) {s:RS} (hs:s.ok) (w:Bytes) {H:Heap} {K KP:au→Heap→Prop} (J:Heap) (hH:H=gI s::j6 s::J) (hk:K (.tup []) (gI (aD s w)::j6 (aD s w)::J)):
  aC T.L 59 [.ptr 1 0,.str w] H (eB K KP):=(P6 F s hs w).to (dD (.str w)) bH J hH hk
theorem Qp (F:uF T) (s:RS) (hs:s.ok):RC T.L 61 [] s (aK s).1.av (aK s).2:=by
 refine RC.of 0 (nQ _ _) (aG F.h61 (by simp[ZG]) ?_);have hv:aK s=if s.bad then(sZ,s)else if s.tok.kind=1 then(s.tok,{s with i:=s.i+1})else(sZ,cZ s 2):=rfl
 conv=>whnf
 refine jM hs ?_;conv=>whnf
 cases hb:s.bad
 ·rw[if_neg (by simp[hb])]at hv
  conv=>whnf
  cases hk:(s.tok.kind !=1)
  ·rw[if_pos (by simpa using hk)]at hv
   rw[hv];conv=>whnf
   rw[addN hs.i];exact⟨_,rfl,Weak.refl _,rfl⟩
  ·rw[if_neg (by simpa using hk)]at hv
   rw[hv];conv=>whnf
   refine F.give hs 2 _ rfl ?_;conv=>whnf
   exact⟨_,rfl,Weak.refl _,rfl⟩
 ·rw[if_pos hb]at hv
  rw[hv];conv=>whnf
  exact⟨_,rfl,Weak.refl _,rfl⟩
theorem uF.name (F:uF T) {s:RS} (hs:s.ok) {H:Heap} {K KP:au→Heap→Prop} (J:Heap) (hH:H=gI s::j6 s::J) (hk:K (aK s).1.av (gI (aK s).2::j6 (aK s).2::J)):
  aC T.L 61 [.ptr 1 0] H (eB K KP):=(Qp F s hs).to fK (nQ _ _) J hH hk
end Go.Ag
/- Package cupelref05: has, Insert, Number. -/
namespace Go.Ag
open Go
variable {T : Tab} {L : Lnk}
def l7 (l:List Bytes) (s:Bytes):Bool:=l.any (· ==s)
theorem iY (l:List Bytes):dB 1 (aO l):=fun x hx=>by
 obtain⟨s,_,rfl⟩:=List.mem_map.1 hx;exact⟨rfl,rfl⟩
theorem VT {l:List Bytes} {k:Nat} (h:k<l.length):(aO l)[((k:Nat):Int).toNat]?=some (.str l[k]):=by
 rw[Int.toNat_natCast,aO,List.getElem?_map,List.getElem?_eq_getElem h];rfl
theorem rW {l:List Bytes} {k:Nat} (h:k<l.length) {P:au→Prop} (hp:P (.str l[k])):0≤((k:Nat):Int)∧(match(aO l)[((k:Nat):Int).toNat]? with
  |some y=>y.cells.length=1∧P y
  |none=>False):=⟨by omega,by rw[VT h];exact⟨rfl,hp⟩⟩
theorem fQ (l:List Bytes):(aO l).length=l.length:=by simp[aO]
theorem KA (h85:T.has 85 Yj) (l:List Bytes) (s:Bytes) (hl:l.length≤2^60) (tk:Tok) (ht:nC 0 tk):Pure T.L 85 [.lst (aO l) tk,.str s] (.bool (l7 l s)):=by
 refine Pure.run (fun y hy=>by simp only[List.mem_cons,List.not_mem_nil,or_false]at hy;rcases hy with rfl|rfl<;>first|exact dQ _ _ _ ht|constructor) (.bool _) (aG h85 (by simp[Yj]) ?_);conv=>whnf
 intro I hI hG
 have key:∀(d k:Nat) (e:Env),l.length-k=d→k≤l.length→l7 l s=l7 (l.drop k) s→I (gB e [(0,.lst (aO l) tk),(1,.str s),(5,.int .i64 k)]) []:=by
  intro d
  induction d with
  |zero=>
   intro k e hd hk hv;obtain rfl:k=l.length:=by omega
   apply hI;conv=>whnf
   rw[fQ,bU (Nat.le_refl _)];conv=>whnf
   rw[hv,List.drop_length];exact aH (Weak.refl _)
  |succ d ih=>
   intro k e hd hk hv;have hlt:k<l.length:=by omega
   apply hI;conv=>whnf
   rw[fQ,dz hlt];conv=>whnf
   refine rW hlt ?_;conv=>whnf
   rw[List.drop_eq_getElem_cons hlt]at hv;simp only[l7,List.any_cons]at hv;cases hc:(l[k]==s)
   ·conv=>whnf
    refine inv_of [(0,.lst (aO l) tk),(1,.str s),(5,.int .i64 ((k+1:Nat):Int))] ⟨rfl,rfl,add1 (by omega),trivial⟩ (ih (k+1) _ (by omega) (by omega) ?_);rw[hc,Bool.false_or]at hv;exact hv
   ·conv=>whnf
    rw[hc,Bool.true_or]at hv;rw[show l7 l s=true from hv];exact aH (Weak.refl _)
 exact inv_of [(0,.lst (aO l) tk),(1,.str s),(5,.int .i64 0)] ⟨rfl,rfl,rfl,trivial⟩ (key l.length 0 _ rfl (by omega) rfl)
def wz (n:Int) (c:UInt8):Int:=IntKind.i64.wrap (IntKind.i64.wrap (10*n)+IntKind.i64.wrap (IntKind.u8.wrap ((c.toNat:Int)-48)))
def tZ (s:Bytes):Int:=s.foldl wz 0
theorem J8 (h84:T.has 84 Yk) (s:Bytes) (hs:s.length≤2^60):Pure T.L 84 [.str s] (.int .i64 (tZ s)):=by
 refine Pure.run (fun y hy=>by simp only[List.mem_cons,List.not_mem_nil,or_false]at hy;rcases hy with rfl;constructor) (.int _ _) (aG h84 (by simp[Yk]) ?_);conv=>whnf
 intro I hI hG
 have key:∀(d k:Nat) (e:Env) (n:Int),s.length-k=d→k≤s.length→tZ s=(s.drop k).foldl wz n→I (gB e [(0,.str s),(3,.int .i64 n),(4,.int .i64 k)]) []:=by
  intro d
  induction d with
  |zero=>
   intro k e n hd hk hv;obtain rfl:k=s.length:=by omega
   apply hI;conv=>whnf
   rw[bU (Nat.le_refl _)];conv=>whnf
   rw[hv,List.drop_length];exact aH (Weak.refl _)
  |succ d ih=>
   intro k e n hd hk hv;have hlt:k<s.length:=by omega
   apply hI;conv=>whnf
   rw[dz hlt];conv=>whnf
   refine oZ hlt ?_;conv=>whnf
   rw[List.drop_eq_getElem_cons hlt,List.foldl_cons]at hv;exact inv_of [(0,.str s),(3,.int .i64 (wz n s[k])),(4,.int .i64 ((k+1:Nat):Int))] ⟨rfl,rfl,add1 (by omega),trivial⟩ (ih (k+1) _ _ (by omega) (by omega) hv)
 exact inv_of [(0,.str s),(3,.int .i64 0),(4,.int .i64 0)] ⟨rfl,rfl,rfl,trivial⟩ (key s.length 0 _ 0 rfl (by omega) rfl)
def mH (names:List Bytes) (name:Bytes):Nat:=(names.takeWhile (bytesLess · name)).length
def kg {α:Type} (l:List α) (i:Nat) (x:α):List α:=l.take i ++[x] ++l.drop i
theorem RZ (l:List TA) (i:Nat):(TA.avs l).take i=TA.avs (l.take i):=by
 induction l generalizing i with
 |nil=>simp[TA.avs]
 |cons x l ih=>cases i with
  |zero=>simp[TA.avs]
  |succ i=>simp[TA.avs,ih]
theorem R3 (l:List TA) (i:Nat):(TA.avs l).drop i=TA.avs (l.drop i):=by
 induction l generalizing i with
 |nil=>simp[TA.avs]
 |cons x l ih=>cases i with
  |zero=>simp[TA.avs]
  |succ i=>simp[TA.avs,ih]
theorem Kt (Q0:T.has 104 Pp) (k0:Int) (n0:Bytes) (names:List Bytes) (l:List TA) (name:Bytes) (x:TA) (hl:l.length=names.length) (hn:names.length≤2^36) (xk:Int) (xn:Bytes) (xs:List Bytes) (xl:List TA) (hx:x=.mk xk xn xs xl):
  Pure T.L 104 [(TA.mk k0 n0 names l).av,.str name,x.av] (TA.mk 5 [] (kg names (mH names name) name) (kg l (mH names name) x)).av:=by
 subst hx;refine Pure.Ms 2 (fun y hy=>by simp only[List.mem_cons,List.not_mem_nil,or_false]at hy;rcases hy with rfl|rfl|rfl<;>first|exact aQ _ _|constructor) (aQ _ _) (aG Q0 (by simp[Pp]) ?_);conv=>whnf
 intro I hI hG
 have key:∀(d k:Nat) (e:Env),names.length-k=d→k≤names.length→mH names name=k+mH (names.drop k) name→I (gB e [(1,.str name),(3,.ptr 2 0),(5,.ptr 3 0),(6,.ptr 4 0),(7,.int .i64 k)])
   [.dead,.dead,.cells [.int .i64 k0,.str n0,.lst (aO names) .none,.lst (TA.avs l) .none] 109,.cells [.int .i64 xk,.str xn,.lst (aO xs) .none,.lst (TA.avs xl) .none] 109,.cells [.int .i64 0,.str [],.lst [] .nil,.lst [] .nil] 109]:=by
  have fin:∀(k:Nat) (e:Env),k≤names.length→mH names name=k→(k<names.length→(h:k<names.length)→bytesLess names[k] name=false)→I (gB e [(1,.str name),(3,.ptr 2 0),(5,.ptr 3 0),(6,.ptr 4 0),(7,.int .i64 k)])
   [.dead,.dead,.cells [.int .i64 k0,.str n0,.lst (aO names) .none,.lst (TA.avs l) .none] 109,.cells [.int .i64 xk,.str xn,.lst (aO xs) .none,.lst (TA.avs xl) .none] 109,.cells [.int .i64 0,.str [],.lst [] .nil,.lst [] .nil] 109]:=by
   intro k e hk hv hst;have hks:k≤(aO names).length:=by rw[fQ];exact hk
   have hkl:k≤(TA.avs l).length:=by rw[bY];omega
   have s1:dB 1 ((aO names).take k):=fun x hx=>iY names x (List.mem_of_mem_take hx)
   have s2:dB 4 ((TA.avs l).take k):=fun x hx=>gL l x (List.mem_of_mem_take hx)
   have s3:dB 1 ((aO names).drop k):=fun x hx=>iY names x (List.mem_of_mem_drop hx)
   have s4:dB 4 ((TA.avs l).drop k):=fun x hx=>gL l x (List.mem_of_mem_drop hx)
   have n1:((aO names).take k).length=k:=by rw[List.length_take];omega
   have n2:((TA.avs l).take k).length=k:=by rw[List.length_take];omega
   have n3:((aO names).drop k).length=names.length-k:=by rw[List.length_drop,fQ]
   have n4:((TA.avs l).drop k).length=names.length-k:=by rw[List.length_drop,bY];omega
   have s5:dB 1 ((aO names).take k ++[.str name]):=fun x hx=>by
    rcases List.mem_append.1 hx with hx|hx
    ·exact s1 x hx
    ·exact bP rfl x hx
   have s6:dB 4 ((TA.avs l).take k ++[au.agg [.int .i64 xk,.str xn,.lst (aO xs) .none,.lst (TA.avs xl) .none]]):=fun x hx=>by
    rcases List.mem_append.1 hx with hx|hx
    ·exact s2 x hx
    ·exact bP rfl x hx
   have b1:(((aO names).take k ++[au.str name]).length+((aO names).drop k).length)*16≤2^46:=by rw[List.length_append,n1,n3];simp;omega
   have b2:((aO names).take k ++[au.str name]).length+((aO names).drop k).length≤2^46:=by rw[List.length_append,n1,n3];simp;omega
   have b3:(((TA.avs l).take k ++[au.agg [.int .i64 xk,.str xn,.lst (aO xs) .none,.lst (TA.avs xl) .none]]).length+((TA.avs l).drop k).length)*72≤2^46:=by rw[List.length_append,n2,n4];simp;omega
   have b4:((TA.avs l).take k ++[au.agg [.int .i64 xk,.str xn,.lst (aO xs) .none,.lst (TA.avs xl) .none]]).length+((TA.avs l).drop k).length≤2^46:=by rw[List.length_append,n2,n4];simp;omega
   apply hI;conv=>whnf
   rcases Nat.lt_or_ge k names.length with hlt|hge
   case' inl=>
    rw[fQ,dz hlt];conv=>whnf
    refine rW hlt ?_;conv=>whnf
    rw[hst hlt hlt]
   case' inr=>
    rw[fQ,bU hge]
   all_goals
    conv=>whnf
    refine⟨Nat.zero_le _,hks,iY _,?_⟩;conv=>whnf
    refine pU (id:=0) (xs:=[]) (fun x hx=>by cases hx) s1 (by simp;omega) (by simp;omega) rfl ?_;conv=>whnf
    refine⟨Nat.zero_le _,hkl,gL _,?_⟩;conv=>whnf
    refine pU (id:=1) (xs:=[]) (fun x hx=>by cases hx) s2 (by simp;omega) (by simp;omega) rfl ?_;conv=>whnf
    refine pU (id:=0) (xs:=(aO names).take k) s1 (bP rfl) (by rw[n1];simp;omega) (by rw[n1];simp;omega) rfl ?_;conv=>whnf
    refine pU (id:=1) (xs:=(TA.avs l).take k) s2 (bP rfl) (by rw[n2];simp;omega) (by rw[n2];simp;omega) rfl ?_;conv=>whnf
    refine⟨hks,Nat.le_refl _,iY _,?_⟩;conv=>whnf
    refine⟨hkl,Nat.le_refl _,gL _,?_⟩;conv=>whnf
    rw[List.take_length];refine pU (id:=0) s5 s3 b1 b2 rfl ?_;conv=>whnf
    rw[List.take_length];refine pU (id:=1) s6 s4 b3 b4 rfl ?_;conv=>whnf
    refine aH ?_;rw[hv];have e1:(aO names).take k ++[au.str name] ++(aO names).drop k=aO (kg names k name):=by simp[aO,kg,List.map_take,List.map_drop]
    have e2:(TA.avs l).take k ++[au.agg [.int .i64 xk,.str xn,.lst (aO xs) .none,.lst (TA.avs xl) .none]] ++(TA.avs l).drop k=TA.avs (kg l k (.mk xk xn xs xl)):=by
     rw[kg,jC,jC,RZ,R3];rfl
    rw[TA.av,←e1,←e2];exact Weak.agg ⟨Weak.refl _,Weak.refl _,Weak.tok _ _,Weak.tok _ _,trivial⟩
  intro d
  induction d with
  |zero=>
   intro k e hd hk hv;obtain rfl:k=names.length:=by omega
   exact fin _ e (Nat.le_refl _) (by rw[hv,List.drop_length];simp[mH]) (fun h=>absurd h (Nat.lt_irrefl _))
  |succ d ih=>
   intro k e hd hk hv;have hlt:k<names.length:=by omega
   cases hc:bytesLess names[k] name
   ·refine fin _ e hk ?_ (fun _ _=>hc)
    rw[hv,List.drop_eq_getElem_cons hlt];unfold mH;rw[List.takeWhile_cons_of_neg (p:=fun x=>bytesLess x name) (by simp[hc])];simp
   ·apply hI
    conv=>whnf
    rw[fQ,dz hlt];conv=>whnf
    refine rW hlt ?_;conv=>whnf
    rw[hc];conv=>whnf
    refine inv_of [(1,.str name),(3,.ptr 2 0),(5,.ptr 3 0),(6,.ptr 4 0),(7,.int .i64 ((k+1:Nat):Int))] ⟨rfl,rfl,rfl,rfl,add1 (by omega),trivial⟩ (ih (k+1) _ (by omega) (by omega) ?_);rw[hv,List.drop_eq_getElem_cons hlt];unfold mH;rw[List.takeWhile_cons_of_pos (p:=fun x=>bytesLess x name) hc,List.length_cons];omega
 exact inv_of [(1,.str name),(3,.ptr 2 0),(5,.ptr 3 0),(6,.ptr 4 0),(7,.int .i64 0)] ⟨rfl,rfl,rfl,rfl,rfl,trivial⟩ (key names.length 0 _ rfl (by omega) (by simp))
end Go.Ag
/- Package cupelref05: what the reader reads of a type, as plain functions. -/
namespace Go.Ag
open Go
def mI :Bytes:=[124]
def qL :Bytes:=[45,62]
def Iq :Bytes:=[105,110,116]
def za :Bytes:=[98,111,111,108]
def y9 :Bytes:=[116,101,120,116]
def QB :Bytes:=[63]
def kLb :Bytes:=[123]
def kRb :Bytes:=[125]
def kLp :Bytes:=[40]
def kRp :Bytes:=[41]
def aS :Bytes:=[58]
def gX :Bytes:=[44]
def mJ :TA:=.mk 0 [] [] []
def TA.names :TA→List Bytes|.mk _ _ ns _=>ns
def TA.l :TA→List TA|.mk _ _ _ l=>l
def gu (s:RS) (t:dA):RS:={s with diags:=s.diags ++[⟨t.at_,4,t.text⟩]}
def fu (s:RS):RS:=if isR s kRb then s else if isR (aD s gX) kRb then cZ (aD s gX) 2 else aD s gX
mutual
def bM :Nat→Nat→RS→TA×RS
 |0,_,s=>(mJ,s)
 |n+1,d,s=>
  if(if 64<d then cZ s 3 else s).bad then(mJ,if 64<d then cZ s 3 else s)
  else if isR (bV n d (if 64<d then cZ s 3 else s)).2 mI then
   (.mk 7 [] [] (jq n d [(bV n d (if 64<d then cZ s 3 else s)).1] (bV n d (if 64<d then cZ s 3 else s)).2).1,(jq n d [(bV n d (if 64<d then cZ s 3 else s)).1] (bV n d (if 64<d then cZ s 3 else s)).2).2)
  else bV n d (if 64<d then cZ s 3 else s)
def jq :Nat→Nat→List TA→RS→List TA×RS
 |0,_,l,s=>(l,s)
 |n+1,d,l,s=>if isR s mI then jq n d (l ++[(bV n d (aD s mI)).1]) (bV n d (aD s mI)).2 else(l,s)
def bV :Nat→Nat→RS→TA×RS
 |0,_,s=>(mJ,s)
 |n+1,d,s=>
  if isR (dU n d s).2 qL then
   if 64<d+1 then((dU n d s).1,cZ (aD (dU n d s).2 qL) 3)
   else(.mk 6 [] [] [(dU n d s).1,(bV n (d+1) (aD (dU n d s).2 qL)).1],(bV n (d+1) (aD (dU n d s).2 qL)).2)
  else dU n d s
def dU :Nat→Nat→RS→TA×RS
 |0,_,s=>(mJ,s)
 |n+1,d,s=>
  if s.bad then(mJ,s)
  else if s.tok.kind=1 then(.mk 8 s.tok.text [] [],{s with i:=s.i+1})
  else if isR s Iq then(.mk 1 [] [] [],aD s Iq)
  else if isR s za then(.mk 2 [] [] [],aD s za)
  else if isR s y9 then(.mk 3 [] [] [],aD s y9)
  else if isR s QB then(.mk 4 [] [] [],aD s QB)
  else if isR s kLb then dh n d (.mk 5 [] [] []) (aD s kLb)
  else if(aD s kLp).bad then(mJ,aD s kLp)
  else((bM n (d+1) (aD s kLp)).1,aD (bM n (d+1) (aD s kLp)).2 kRp)
def dh :Nat→Nat→TA→RS→TA×RS
 |0,_,out,s=>(out,s)
 |n+1,d,out,s=>
  if !s.bad&& !isR s kRb then
   if(aD (aK s).2 aS).bad then(mJ,aD (aK s).2 aS)
   else if l7 out.names (aK s).1.text then
    dh n d out (fu (bM n (d+1) (gu (aD (aK s).2 aS) (aK s).1)).2)
   else
    dh n d (.mk 5 [] (kg out.names (mH out.names (aK s).1.text) (aK s).1.text) (kg out.l (mH out.names (aK s).1.text) (bM n (d+1) (aD (aK s).2 aS)).1))
     (fu (bM n (d+1) (aD (aK s).2 aS)).2)
  else(out,aD s kRb)
end
theorem gU {s:RS} (hs:s.ok):s.le (fu s):=by
 unfold fu;have h:=aL hs gX;split
 ·exact RS.le.refl hs
 ·split
  ·exact h.trans (kV (hs.of h) 2)
  ·exact h
theorem ji {s:RS} {w:Bytes} (h:(aD s w).bad=false):s.bad=false∧isR s w=true∧aD s w={s with i:=s.i+1}:=by
 unfold aD at h⊢;split at h
 ·rename_i hi
  exact⟨(wG hi).2.1,hi,by rw[if_pos hi]⟩
 ·unfold cZ at h
  split at h
  ·rename_i hb;rw[hb]at h;cases h
  ·cases h
theorem qo {s:RS} (h:(aK s).2.bad=false):s.bad=false∧s.tok.kind=1∧aK s=(s.tok,{s with i:=s.i+1}):=by
 unfold aK at h⊢;split at h
 ·rename_i hb;rw[hb]at h;cases h
 ·rename_i hb
  split at h
  ·rename_i hk;exact⟨by simpa using hb,hk,by rw[if_neg hb,if_pos hk]⟩
  ·unfold cZ at h
   rw[if_neg hb]at h;cases h
theorem jL {s:RS} {w:Bytes} (h:isR s w=true):aD s w={s with i:=s.i+1}:=by unfold aD;rw[if_pos h]
theorem eO {s:RS} (hs:s.ok) {w:Bytes} (h:isR s w=true):(aD s w).rem+1=s.rem:=by
 rw[jL h];unfold RS.rem;have:=hs.lt;simp only;omega
theorem lK {s:RS} (hs:s.ok) (w:Bytes) (h:(aD (aK s).2 w).bad=false):s.le (gu (aD (aK s).2 w) (aK s).1):=by
 have h1:=bS hs;have h2:=h1.trans (aL (hs.of h1) w);obtain⟨h3,h4,h5⟩:=ji h;obtain⟨h6,h7,h8⟩:=qo h3;refine⟨h2.toks,h2.i,h2.lt,?_⟩;rw[h5,h8];have h9:=h2.lt;rw[h5,h8]at h9;simp only at h9;simp only[gu,RS.pot,List.length_append,List.length_cons,List.length_nil,h6];simp;omega
theorem tC {s:RS} (hs:s.ok) (w:Bytes) (h:(aD (aK s).2 w).bad=false):(aD (aK s).2 w).rem+2=s.rem:=by
 have h1:=bS hs;have h2:=h1.trans (aL (hs.of h1) w);obtain⟨h3,h4,h5⟩:=ji h;obtain⟨h6,h7,h8⟩:=qo h3;have h9:=h2.lt;rw[h5,h8]at h9⊢;simp only at h9;simp only[RS.rem];omega
theorem bN :∀n:Nat,(∀(d:Nat) (s:RS),s.ok→s.le (bM n d s).2)∧(∀(d:Nat) (l:List TA) (s:RS),s.ok→s.le (jq n d l s).2)∧(∀(d:Nat) (s:RS),s.ok→s.le (bV n d s).2)∧(∀(d:Nat) (s:RS),s.ok→s.le (dU n d s).2)∧(∀(d:Nat) (out:TA) (s:RS),s.ok→s.le (dh n d out s).2):=by
 intro n
 induction n with
 |zero=>exact⟨fun d s h=>by unfold bM;exact RS.le.refl h,fun d l s h=>by unfold jq;exact RS.le.refl h,fun d s h=>by unfold bV;exact RS.le.refl h,fun d s h=>by unfold dU;exact RS.le.refl h,fun d o s h=>by unfold dh;exact RS.le.refl h⟩
 |succ n ih=>
  obtain⟨h1,h2,h3,h4,h5⟩:=ih;refine⟨fun d s h=>?_,fun d l s h=>?_,fun d s h=>?_,fun d s h=>?_,fun d out s h=>?_⟩
  ·have hle:s.le (if 64<d then cZ s 3 else s):=by
    split
    ·exact kV h 3
    ·exact RS.le.refl h
   unfold bM;generalize (if 64<d then cZ s 3 else s)=s1 at hle⊢;have ho:=h.of hle;split
   ·exact hle
   ·split
    ·exact hle.trans ((h3 d s1 ho).trans (h2 _ _ _ (ho.of (h3 d s1 ho))))
    ·exact hle.trans (h3 d s1 ho)
  ·unfold jq
   split
   ·have k1:=aL h mI
    have k2:=h3 d _ (h.of k1);exact k1.trans (k2.trans (h2 _ _ _ ((h.of k1).of k2)))
   ·exact RS.le.refl h
  ·unfold bV
   have k1:=h4 d s h;have k2:=aL (h.of k1) qL;have ho:=(h.of k1).of k2;split
   ·split
    ·exact k1.trans (k2.trans (kV ho 3))
    ·exact k1.trans (k2.trans (h3 _ _ ho))
   ·exact k1
  ·unfold dU
   split
   ·exact RS.le.refl h
   ·split
    ·rename_i hk;exact mV h (by omega)
    ·split
     ·exact aL h _
     ·split
      ·exact aL h _
      ·split
       ·exact aL h _
       ·split
        ·exact aL h _
        ·split
         ·exact(aL h _).trans (h5 _ _ _ (h.of (aL h _)))
         ·split
          ·exact aL h _
          ·have k1:=aL h kLp
           have k2:=h1 (d+1) _ (h.of k1);exact k1.trans (k2.trans (aL ((h.of k1).of k2) _))
  ·unfold dh
   split
   ·split
    ·exact(bS h).trans (aL (h.of (bS h)) _)
    ·rename_i hb
     have hb:(aD (aK s).2 aS).bad=false:=by simpa using hb
     split
     ·have k1:=lK h aS hb
      have k2:=h1 (d+1) _ (h.of k1);have k3:=gU ((h.of k1).of k2);exact k1.trans (k2.trans (k3.trans (h5 _ _ _ (((h.of k1).of k2).of k3))))
     ·have k1:=(bS h).trans (aL (h.of (bS h)) aS)
      have k2:=h1 (d+1) _ (h.of k1);have k3:=gU ((h.of k1).of k2);exact k1.trans (k2.trans (k3.trans (h5 _ _ _ (((h.of k1).of k2).of k3))))
   ·exact aL h _
end Go.Ag

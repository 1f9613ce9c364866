/- Our texts, joined by a program of ours (join.py): part 6 of 9. -/
import Derived.Test.YtmjgjmaljdgcpaaGreatDoorTextE
set_option linter.unusedVariables false
/- Package cupelref05: declarations, Of. -/
namespace Go.Ag
open Go
variable {T : Tab} {L : Lnk}
theorem BS {ρ:Nat→Nat} (h0:ρ 0=0) {x:au} (h:Low 1 x):ren ρ x=x:=iR (n:=1) (fun i hi=>by
 have:i=0:=by omega
 subst this;exact h0) h
theorem r9 {ρ:Nat→Nat} (h0:ρ 0=0) {o:aU} (h:bI 1 o):gV ρ o=o:=jm (n:=1) (fun i hi=>by
 have:i=0:=by omega
 subst this;exact h0) h
theorem aC.at1 {f:Nat} {args:List au} {a a':aU} {y:au} (h:aC L f args [a] fun r H'=>r=.ret y∧H'=[a']) (hargs:∀x∈args,Low 1 x) (ha:bI 1 a) (hy:Low 1 y) (ha':bI 1 a') (J:Heap):
  aC L f args (a::J) fun r H'=>r=.ret y∧H'=a'::J:=by
 have hp:Part (a::J) [0] [a]:=by
  refine⟨by decide,rfl,fun k i o hk ho=>?_⟩
  match k,hk,ho with
  |0,hk,ho=>simp at hk ho;subst hk ho;rw[r9 rfl ha];rfl
  |k+1,hk,ho=>simp at hk
 have h1:=aC.mY h [0] hp (.inr fun r H1 hq=>by rw[hq.2];exact Nat.le_refl _);rw[show args.map (ren (nameOf [0] (a::J).length))=args from(List.map_congr_left (g:=id) fun x hx=>BS rfl (hargs x hx)).trans (List.map_id args)]at h1;refine h1.mono fun r H' ⟨r1,H1,⟨e1,e2⟩,_,e3,e4⟩=>?_
 subst e1 e2;exact⟨by rw[e3];simp only[zT];rw[BS rfl hy],by rw[e4];simp[mG];exact r9 rfl ha'⟩
theorem xJ.at2 {f:Nat} {args:List au} {a b a' b':aU} {y:au} (h:xJ L f (.ptr 1 0::args) a b y a' b') (hargs:∀x∈args,Low 1 x) (ha:bI 1 a) (hb:bI 1 b) (hy:Low 1 y) (ha':bI 1 a') (hb':bI 1 b') (c:aU) (J:Heap):
  aC L f (.ptr 2 0::args) (a::c::b::J) fun r H'=>r=.ret y∧H'=a'::c::b'::J:=by
 have hp:Part (a::c::b::J) [0,2] [a,b]:=by
  refine⟨by decide,rfl,fun k i o hk ho=>?_⟩
  match k,hk,ho with
  |0,hk,ho=>simp at hk ho;subst hk ho;rw[r9 rfl ha];rfl
  |1,hk,ho=>simp at hk ho;subst hk ho;rw[r9 rfl hb];rfl
  |k+2,hk,ho=>simp at hk
 have h1:=aC.mY h [0,2] hp (.inr fun r H1 hq=>by rw[hq.2];exact Nat.le_refl _)
 rw[show(au.ptr 1 0::args).map (ren (nameOf [0,2] (a::c::b::J).length))=.ptr 2 0::args from by
  rw[List.map_cons,show args.map (ren (nameOf [0,2] (a::c::b::J).length))=args from(List.map_congr_left (g:=id) fun x hx=>BS rfl (hargs x hx)).trans (List.map_id args)];rfl]at h1
 refine h1.mono fun r H' ⟨r1,H1,⟨e1,e2⟩,_,e3,e4⟩=>?_
 subst e1 e2;exact⟨by rw[e3];simp only[zT];rw[BS rfl hy],by rw[e4];simp[mG];exact⟨r9 rfl ha',r9 rfl hb'⟩⟩
theorem RC.to2 {f:Nat} {args:List au} {s s':RS} {y:au} (h:RC L f args s y s') (hargs:∀x∈args,Low 1 x) (hy:Low 1 y) {H:Heap} {K KP:au→Heap→Prop} (c:aU) (J:Heap) (hH:H=gI s::c::j6 s::J)
  (hk:K y (gI s'::c::j6 s'::J)):aC L f (.ptr 2 0::args) H (eB K KP):=by
 subst hH;exact(xJ.at2 h hargs (bG _ _ _) (nH (by decide) s) hy (bG _ _ _) (nH (by decide) s') c J).mono fun r H' ⟨e1,e2⟩=>by subst e1 e2;exact hk
def bE (src:Bytes):RS:=⟨(fM src).1,0,(fM src).2,false⟩
theorem Wu (h39:T.has 39 Yn) (h58:T.has 58 Uj) (h79:T.has 79 Le) (h80:T.has 80 Rq) (h81:T.has 81 Rp) (h82:T.has 82 Ro) (src:Bytes) (hs:src.length≤2^32):
  aC T.L 39 [.str src] [.dead] fun r H'=>r=.ret (.agg [.lst ((fM src).1.map dA.av) .none,.int .i64 0,.lst ((fM src).2.map bO.av) (bK (fM src).2.length 0),.bool false])∧H'=[bC (fM src).2.length 127]:=by
 have hl1:Low 1 (.tup [.lst ((fM src).1.map dA.av) .none,.lst ((fM src).2.map bO.av) (bK (fM src).2.length 0)]):=
  .tup _ (gq.at ⟨jO _ _ _ trivial,gM _ _ _ (dO (by decide)),trivial⟩)
 have hlex:=fun J=>aC.at1 (SS h58 h79 h80 h81 h82 src hs) (dD (.str _)) trivial hl1 (bG _ _ _) J
 have hl2:Low 1 (.agg [.lst ((fM src).1.map dA.av) .none,.int .i64 0,.lst ((fM src).2.map bO.av) (bK (fM src).2.length 0),.bool false]):=
  .agg _ (gq.at ⟨jO _ _ _ trivial,.int _ _,gM _ _ _ (dO (by decide)),.bool _,trivial⟩)
 generalize fM src=lx at hlex hl1 hl2⊢
 have main:aC T.L 39 [.str src] [aU.dead] fun r H1=>∃x J,r=.ret x∧Weak T.L x (.agg [.lst (lx.1.map dA.av) .none,.int .i64 0,.lst (lx.2.map bO.av) (bK lx.2.length 0),.bool false])∧H1=bC lx.2.length 127::J:=by
  refine aG h39 (by simp[Yn]) ?_;conv=>whnf
  refine(hlex _).mono fun r H' ⟨e1,e2⟩=>?_
  subst e1 e2;conv=>whnf
  exact⟨_,_,rfl,Weak.refl _,rfl⟩
 refine(aC.gcW (Q:=fun z H'=>z=(.agg [.lst (lx.1.map dA.av) .none,.int .i64 0,.lst (lx.2.map bO.av) (bK lx.2.length 0),.bool false])∧H'=[bC lx.2.length 127])
  (main.mono fun r H1 ⟨x,J,e1,e2,e3⟩=>?_)).mono fun r H1 ⟨z,e1,_,e2,e3⟩=>⟨by rw[e1,e2],e3⟩
 refine⟨x,_,[bC lx.2.length 127],[bC lx.2.length 127],J,by rw[e3];rfl,e1,e2,hl2,rfl,rfl,fun i o o' h1 h2=>by rw[h1]at h2;cases h2;exact bJ.refl o,fun o ho=>?_,rfl,rfl⟩;simp only[List.mem_singleton]at ho;subst ho;exact bG _ _ _
def EP :Bytes:=[117,115,101]
def nI :Bytes:=[116,121,112,101]
def K9 (p:dA×RS):dV×RS:=(⟨1,p.1.at_,p.1.text,[],[]⟩,aD p.2 jd)
def declT (n:Nat) (p:dA×RS):dV×RS:=(⟨2,p.1.at_,p.1.text,[(bM n 1 (aD p.2 kEq)).1],[]⟩,aD (bM n 1 (aD p.2 kEq)).2 jd)
def uI (n:Nat) (t:dA) (ts:List TA) (s:RS):dV×RS:=(⟨3,t.at_,t.text,ts,[(bZ n 1 (aD s kEq)).1]⟩,aD (bZ n 1 (aD s kEq)).2 jd)
def BA (n:Nat) (p:dA×RS):dV×RS:=if isR p.2 aS then uI n p.1 [(bM n 1 (aD p.2 aS)).1] (bM n 1 (aD p.2 aS)).2 else uI n p.1 [] p.2
def fH (n:Nat) (s:RS):dV×RS:=
 if isR s EP then K9 (aK (aD s EP))
 else if isR s nI then declT n (aK (aD s nI))
 else if isR s uy then BA n (aK (aD s uy))
 else(⟨0,0,[],[],[]⟩,cZ s 2)
theorem vE (n:Nat) (x:dV):Low n x.av:=.agg _ (gq.at ⟨.int _ _,.int _ _,.str _,.lst _ _ trivial (aY _ _),.lst _ _ trivial (wD _ _),trivial⟩)
theorem kR (k p:Int) (nm:Bytes) (ts:List TA) (es:List EA) (t1 t2:Tok):Weak L (.agg [.int .i64 k,.int .i64 p,.str nm,.lst (TA.avs ts) t1,.lst (EA.avs es) t2]) (dV.mk k p nm ts es).av:=
 Weak.agg ⟨Weak.refl _,Weak.refl _,Weak.refl _,Weak.tok _ _,Weak.tok _ _,trivial⟩
theorem Ch {n:Nat} {s:RS} (hs:s.ok):s.le (fH n s).2:=by
 have tk:=fun(s:RS) (h:s.ok) (w:Bytes)=>aL h w
 have hE:∀(t:dA) (ts:List TA) (s:RS),s.ok→s.le (uI n t ts s).2:=fun t ts s hs=>by
  have k1:=tk s hs kEq;have k2:=k1.trans ((fT n).expr 1 _ (hs.of k1));exact k2.trans (tk _ (hs.of k2) jd)
 unfold fH;split
 ·have k1:=tk s hs EP
  have k2:=k1.trans (bS (hs.of k1));exact k2.trans (tk _ (hs.of k2) jd)
 ·split
  ·have k1:=tk s hs nI
   have k2:=k1.trans (bS (hs.of k1));have k3:=k2.trans (tk _ (hs.of k2) kEq);have k4:=k3.trans ((bN n).1 1 _ (hs.of k3));exact k4.trans (tk _ (hs.of k4) jd)
  ·split
   ·have k1:=tk s hs uy
    have k2:=k1.trans (bS (hs.of k1));unfold BA;split
    ·have k3:=k2.trans (tk _ (hs.of k2) aS)
     have k4:=k3.trans ((bN n).1 1 _ (hs.of k3));exact k4.trans (hE _ _ _ (hs.of k4))
    ·exact k2.trans (hE _ _ _ (hs.of k2))
   ·exact kV hs 2
theorem Rk (F:uF T) (n:Nat) (s:RS) (hs:s.ok) (hf:6*s.rem+8≤n):RC T.L 40 [] s (fH n s).1.av (fH n s).2:=by
 refine RC.of 0 (vE _ _) (aG F.h40 (by simp[ZJ]) ?_);obtain⟨R,hR⟩:∃R,fH n s=R:=⟨_,rfl⟩;rw[hR];rw[fH]at hR;conv=>whnf
 intro I hI hG;refine hI _ _ ?_;conv=>whnf
 refine⟨by decide,?_⟩;conv=>whnf
 refine⟨rfl,?_⟩;conv=>whnf
 refine F.is hs EP _ rfl ?_;cases h0:isR s EP
 ·rw[if_neg (by simp[h0])]at hR
  conv=>whnf
  refine hI _ _ ?_;conv=>whnf
  refine⟨by decide,?_⟩;conv=>whnf
  refine⟨rfl,?_⟩;conv=>whnf
  refine F.is hs nI _ rfl ?_;cases h1:isR s nI
  ·rw[if_neg (by simp[h1])]at hR
   conv=>whnf
   refine hI _ _ ?_;conv=>whnf
   refine⟨by decide,?_⟩;conv=>whnf
   refine⟨rfl,?_⟩;conv=>whnf
   refine F.is hs uy _ rfl ?_;cases h2:isR s uy
   ·rw[if_neg (by simp[h2])]at hR
    conv=>whnf
    refine hI _ _ ?_;conv=>whnf
    refine F.give hs 2 _ rfl ?_;subst hR;conv=>whnf
    exact⟨_,rfl,kR _ _ _ [] [] _ _,rfl⟩
   ·rw[if_pos h2]at hR
    conv=>whnf
    refine⟨by decide,?_⟩;conv=>whnf
    refine⟨rfl,?_⟩;conv=>whnf
    refine F.take hs uy _ rfl ?_;have k1:=aL hs uy;have hr1:=k1.rem;generalize aD s uy=s1 at k1 hr1 hR⊢;have hs1:=hs.of k1;conv=>whnf
    refine hI _ _ ?_;conv=>whnf
    clear hI hG;refine F.name hs1 _ rfl ?_;have n1:=bS hs1;have hrn:=n1.rem;obtain⟨p,hp⟩:∃p,aK s1=p:=⟨_,rfl⟩;rw[hp]at hR n1 hrn⊢;have hs2:=hs1.of n1;conv=>whnf
    refine F.is hs2 aS _ rfl ?_;rw[BA]at hR;cases h3:isR p.2 aS
    ·rw[if_neg (by simp[h3]),uI]at hR
     conv=>whnf
     refine F.take hs2 kEq _ rfl ?_;have k3:=aL hs2 kEq;have hr3:=k3.rem;generalize aD p.2 kEq=s3 at k3 hr3 hR⊢;have hs3:=hs2.of k3;conv=>whnf
     have hq:=(TW F n).expr 1 s3 hs3 (by omega) (by omega);have hle:=(fT n).expr 1 s3 hs3;obtain⟨q,hqe⟩:∃q,bZ n 1 s3=q:=⟨_,rfl⟩;rw[hqe]at hq hle hR;obtain⟨⟨c1,c2,c3,c4,c5,c6,c7⟩,s4⟩:=q;dsimp only at hq hle hR;subst hR;refine hq.to (dD (.int _ _)) (iN _ _) _ rfl ?_;conv=>whnf
     refine F.take (hs3.of hle) jd _ rfl ?_;conv=>whnf
     exact⟨_,rfl,kR _ _ _ [] [.mk c1 c2 c3 c4 c5 c6 c7] _ _,rfl⟩
    ·rw[if_pos h3]at hR
     conv=>whnf
     refine F.take hs2 aS _ rfl ?_;have k3:=aL hs2 aS;have hr3:=k3.rem;generalize aD p.2 aS=s3 at k3 hr3 hR⊢;have hs3:=hs2.of k3;conv=>whnf
     have hq:=(CF F n).type 1 s3 hs3 (by omega) (by omega);have hle:=(bN n).1 1 s3 hs3;have hre:=hle.rem;obtain⟨q,hqe⟩:∃q,bM n 1 s3=q:=⟨_,rfl⟩;rw[hqe]at hq hle hR hre;obtain⟨⟨a1,a2,a3,a4⟩,s4⟩:=q;dsimp only at hq hle hR hre;refine hq.to (dD (.int _ _)) (aQ _ _) _ rfl ?_;have hs4:=hs3.of hle;rw[uI]at hR;conv=>whnf
     refine F.take hs4 kEq _ rfl ?_;have k5:=aL hs4 kEq;have hr5:=k5.rem;generalize aD s4 kEq=s5 at k5 hr5 hR⊢;have hs5:=hs4.of k5;conv=>whnf
     have hq:=(TW F n).expr 1 s5 hs5 (by omega) (by omega);have hle:=(fT n).expr 1 s5 hs5;obtain⟨q,hqe⟩:∃q,bZ n 1 s5=q:=⟨_,rfl⟩;rw[hqe]at hq hle hR;obtain⟨⟨c1,c2,c3,c4,c5,c6,c7⟩,s6⟩:=q;dsimp only at hq hle hR;subst hR;refine hq.to (dD (.int _ _)) (iN _ _) _ rfl ?_;conv=>whnf
     refine F.take (hs5.of hle) jd _ rfl ?_;conv=>whnf
     exact⟨_,rfl,kR _ _ _ [.mk a1 a2 a3 a4] [.mk c1 c2 c3 c4 c5 c6 c7] _ _,rfl⟩
  ·rw[if_pos h1,declT]at hR
   conv=>whnf
   refine⟨by decide,?_⟩;conv=>whnf
   refine⟨rfl,?_⟩;conv=>whnf
   refine F.take hs nI _ rfl ?_;have k1:=aL hs nI;have hr1:=k1.rem;generalize aD s nI=s1 at k1 hr1 hR⊢;have hs1:=hs.of k1;conv=>whnf
   refine hI _ _ ?_;conv=>whnf
   refine hI _ _ ?_;conv=>whnf
   clear hI hG;refine F.name hs1 _ rfl ?_;have n1:=bS hs1;have hrn:=n1.rem;obtain⟨p,hp⟩:∃p,aK s1=p:=⟨_,rfl⟩;rw[hp]at hR n1 hrn⊢;have hs2:=hs1.of n1;conv=>whnf
   refine F.take hs2 kEq _ rfl ?_;have k3:=aL hs2 kEq;have hr3:=k3.rem;generalize aD p.2 kEq=s3 at k3 hr3 hR⊢;have hs3:=hs2.of k3;conv=>whnf
   have hq:=(CF F n).type 1 s3 hs3 (by omega) (by omega);have hle:=(bN n).1 1 s3 hs3;obtain⟨q,hqe⟩:∃q,bM n 1 s3=q:=⟨_,rfl⟩;rw[hqe]at hq hle hR;obtain⟨⟨a1,a2,a3,a4⟩,s4⟩:=q;dsimp only at hq hle hR;subst hR;refine hq.to (dD (.int _ _)) (aQ _ _) _ rfl ?_;conv=>whnf
   refine F.take (hs3.of hle) jd _ rfl ?_;conv=>whnf
   exact⟨_,rfl,kR _ _ _ [.mk a1 a2 a3 a4] [] _ _,rfl⟩
 ·rw[if_pos h0,K9]at hR
  conv=>whnf
  refine⟨by decide,?_⟩;conv=>whnf
  refine⟨rfl,?_⟩;conv=>whnf
  refine F.take hs EP _ rfl ?_;have k1:=aL hs EP;generalize aD s EP=s1 at k1 hR⊢;have hs1:=hs.of k1;conv=>whnf
  refine hI _ _ ?_;conv=>whnf
  refine hI _ _ ?_;conv=>whnf
  refine hI _ _ ?_;conv=>whnf
  clear hI hG;refine F.name hs1 _ rfl ?_;have n1:=bS hs1;obtain⟨p,hp⟩:∃p,aK s1=p:=⟨_,rfl⟩;rw[hp]at hR n1⊢;have hs2:=hs1.of n1;conv=>whnf
  refine F.take hs2 jd _ rfl ?_;subst hR;conv=>whnf
  exact⟨_,rfl,kR _ _ _ [] [] _ _,rfl⟩
end Go.Ag
/- Package cupelref05: Parse, ExprOf. -/
namespace Go.Ag
open Go
variable {T : Tab} {L : Lnk}
theorem R4 (src:Bytes) (i j:Nat):(ku src i j).length≤src.length:=by
 simp only[ku,List.length_drop,List.length_take];omega
theorem xC (src:Bytes) (k:Nat) (c:UInt8):(bB src k c).2.1.length≤1∧(bB src k c).2.2.length≤1∧∀t∈(bB src k c).2.1,t.text.length≤src.length+2:=by
 have h:=R4 src;unfold bB
 repeat' split
 all_goals
  refine⟨by simp,by simp,fun t ht=>?_⟩;simp only[List.mem_cons,List.not_mem_nil,or_false]at ht
 all_goals first
  |(cases ht;done)
  |(subst ht;first|(exact Nat.le_trans (h _ _) (by omega))|simp)
theorem vG (src:Bytes):∀(n k:Nat) (l:List dA) (d:List bO) (b:Nat),l.length≤b→d.length≤b→(∀t∈l,t.text.length≤src.length+2)→
  (iK src n k l d).1.length≤b+n∧(iK src n k l d).2.length≤b+n∧∀t∈(iK src n k l d).1,t.text.length≤src.length+2
 |0,k,l,d,b,h1,h2,h3=>⟨h1,h2,h3⟩
 |n+1,k,l,d,b,h1,h2,h3=>by
  rw[iK];split
  ·rename_i c hc
   obtain⟨e1,e2,e3⟩:=xC src k c
   obtain⟨k1,k2,k3⟩:=vG src n (bB src k c).1 (l ++(bB src k c).2.1) (d ++(bB src k c).2.2) (b+1) (by rw[List.length_append];omega) (by rw[List.length_append];omega) (fun t ht=>by
    rcases List.mem_append.1 ht with ht|ht
    ·exact h3 t ht
    ·exact e3 t ht)
   exact⟨by omega,by omega,k3⟩
  ·exact⟨by show l.length≤_;omega,by show d.length≤_;omega,h3⟩
theorem xD {src:Bytes} {k:Nat} {c:UInt8} (h:src[k]?=some c):∀t∈(bB src k c).2.1,t.kind=1→t.text≠[]:=by
 obtain⟨hlt,hc⟩:=List.getElem?_eq_some_iff.1 h
 have name:inA c nE=true→ku src k (bR src k bW)≠[]:=fun hs h0=>by
  have h1:bR src k bW=iI (inA · bW) src (k+1):=rY (p:=(inA · bW)) hlt (by show inA src[k] bW=true;rw[hc];exact EC hs);have h2:=lQ (p:=(inA · bW)) (src:=src) (k:=k+1) hlt;have h3:=congrArg List.length h0;simp only[ku,List.length_drop,List.length_take,List.length_nil]at h3;rw[h1]at h3;omega
 have no:∀{n:Int} {a:Int} {x:Bytes},n≠1→∀t∈[(⟨n,a,x⟩:dA)],t.kind=1→t.text≠[]:=fun hn t ht hk=>by
  simp only[List.mem_singleton]at ht;subst ht;exact absurd hk hn
 have nil:∀t∈([]:List dA),t.kind=1→t.text≠[]:=fun t ht=>by cases ht
 unfold bB;split
 ·exact nil
 split
 ·exact nil
 split
 ·rename_i hs
  intro t ht hk;simp only[List.mem_singleton]at ht;subst ht;exact name hs
 split
 ·split
  ·exact no (by decide)
  ·exact no (by decide)
 split
 ·split
  ·exact no (by decide)
  ·exact nil
 split
 ·exact no (by decide)
 split
 ·exact no (by decide)
 ·exact nil
theorem Bo (src:Bytes):∀(n k:Nat) (l:List dA) (d:List bO),(∀t∈l,t.kind=1→t.text≠[])→∀t∈(iK src n k l d).1,t.kind=1→t.text≠[]
 |0,k,l,d,h=>h
 |n+1,k,l,d,h=>by
  rw[iK];split
  ·rename_i c hc
   refine Bo src n _ _ _ fun t ht=>?_
   rcases List.mem_append.1 ht with ht|ht
   ·exact h t ht
   ·exact xD hc t ht
  ·exact h
theorem VU {p:UInt8→Bool} {src:Bytes} {k:Nat}:∀c∈ku src k (iI p src k),p c=true:=by
 intro c hc;unfold ku iI at hc
 have h1:((src.take (k+((src.drop k).takeWhile p).length)).drop k)=(src.drop k).takeWhile p:=by
  rw[List.drop_take,Nat.add_sub_cancel_left];generalize src.drop k=l;have h2:l=l.takeWhile p ++l.dropWhile p:=List.takeWhile_append_dropWhile.symm;conv=>lhs;arg 2;rw[h2]
  rw[List.take_left]
 rw[h1]at hc
 have:∀(l:List UInt8),c∈l.takeWhile p→p c=true:=fun l=>by
  induction l with
  |nil=>intro h;cases h
  |cons a l ih=>
   intro h;rw[List.takeWhile_cons]at h;split at h
   ·rename_i ha
    rcases List.mem_cons.1 h with rfl|h
    ·exact ha
    ·exact ih h
   ·cases h
 exact this _ hc
theorem Ud {c:UInt8} (h:inA c bD=true):48≤c.toNat∧c.toNat≤57:=by
 unfold inA bD at h;simp only[List.any_cons,List.any_nil,Bool.or_false,Bool.or_eq_true,beq_iff_eq]at h;rcases h with h|h|h|h|h|h|h|h|h|h<;>subst h<;>decide
theorem Kj {src:Bytes} {k:Nat} {c:UInt8} (h:src[k]?=some c):∀t∈(bB src k c).2.1,t.kind=3→yT t.text:=by
 obtain⟨hlt,hc⟩:=List.getElem?_eq_some_iff.1 h
 have no:∀{n:Int} {a:Int} {x:Bytes},n≠3→∀t∈[(⟨n,a,x⟩:dA)],t.kind=3→yT t.text:=fun hn t ht hk=>by
  simp only[List.mem_singleton]at ht;subst ht;exact absurd hk hn
 have nil:∀t∈([]:List dA),t.kind=3→yT t.text:=fun t ht=>by cases ht
 unfold bB;split
 ·exact nil
 split
 ·exact nil
 split
 ·exact no (by split<;>decide)
 split
 ·rename_i h4
  split
  ·intro t ht hk
   simp only[List.mem_singleton]at ht;subst ht
   exact⟨by simp,by simp,fun c hc=>by
    have:c=48:=by simpa using hc
    subst this;decide⟩
  ·rename_i h18
   intro t ht hk;simp only[List.mem_singleton]at ht;subst ht;have w2:k<bR src k bD:=BQ (p:=(inA · bD)) (src:=src) hlt (by rw[hc];exact h4);have w3:bR src k bD≤src.length:=(lQ (p:=(inA · bD)) (src:=src) (k:=k) (by omega)).2;refine⟨fun h0=>?_,?_,fun c hc=>Ud (VU (p:=(inA · bD)) c hc)⟩
   ·have h3:=congrArg List.length h0
    simp only[ku,List.length_drop,List.length_take,List.length_nil]at h3;omega
   ·simp only[ku,List.length_drop,List.length_take]
    omega
 split
 ·split
  ·exact no (by decide)
  ·exact nil
 split
 ·exact no (by decide)
 split
 ·exact no (by decide)
 ·exact nil
theorem FZ (src:Bytes):∀(n k:Nat) (l:List dA) (d:List bO),(∀t∈l,t.kind=3→yT t.text)→∀t∈(iK src n k l d).1,t.kind=3→yT t.text
 |0,k,l,d,h=>h
 |n+1,k,l,d,h=>by
  rw[iK];split
  ·rename_i c hc
   refine FZ src n _ _ _ fun t ht=>?_
   rcases List.mem_append.1 ht with ht|ht
   ·exact h t ht
   ·exact Kj hc t ht
  ·exact h
theorem mQ (src:Bytes) (hs:src.length≤2^32):(bE src).ok∧(bE src).toks.length≤src.length+1∧(bE src).diags.length≤src.length:=by
 obtain⟨k1,k2,k3⟩:=vG src src.length 0 [] [] 0 (by simp) (by simp) (fun t ht=>by cases ht);have e1:(bE src).toks=(iK src src.length 0 [] []).1 ++[⟨6,src.length,[]⟩]:=rfl;have e2:(bE src).diags=(iK src src.length 0 [] []).2:=rfl;have e3:(bE src).i=0:=rfl;have k4:=Bo src src.length 0 [] [] (fun t ht=>by cases ht);have k5:=FZ src src.length 0 [] [] (fun t ht=>by cases ht);generalize iK src src.length 0 [] []=g at k1 k2 k3 k4 k5 e1 e2;refine⟨⟨?_,fun j t hj hk=>?_,?_,fun t ht=>?_,?_,fun t ht hk=>?_,fun t ht hk=>?_⟩,?_,?_⟩
 ·rw[e1,e3];simp
 ·rw[e1]at hj⊢
  rw[List.length_append];rcases Nat.lt_or_ge j g.1.length with h|h
  ·simp;omega
  ·rw[List.getElem?_append_right h]at hj
   cases hjj:j-g.1.length with
   |zero=>rw[hjj]at hj;simp at hj;rw[←hj]at hk;simp at hk
   |succ m=>rw[hjj]at hj;simp at hj
 ·rw[e1];simp;omega
 ·rw[e1]at ht
  rcases List.mem_append.1 ht with ht|ht
  ·have:=k3 t ht;omega
  ·simp only[List.mem_singleton]at ht;subst ht;simp
 ·unfold RS.pot;rw[e1,e2,e3];simp;split<;>omega
 ·rw[e1]at ht
  rcases List.mem_append.1 ht with ht|ht
  ·exact k4 t ht hk
  ·simp only[List.mem_singleton]at ht;subst ht;exact absurd (show(6:Int)=1 from hk) (by decide)
 ·rw[e1]at ht
  rcases List.mem_append.1 ht with ht|ht
  ·exact k5 t ht hk
  ·simp only[List.mem_singleton]at ht;subst ht;exact absurd (show(6:Int)=3 from hk) (by decide)
 ·rw[e1];simp;omega
 ·rw[e2];omega
structure Vz (T:Tab):Prop extends uF T where
 h39:T.has 39 Yn
 h58:T.has 58 Uj
 h79:T.has 79 Le
 h80:T.has 80 Rq
 h81:T.has 81 Rp
 h82:T.has 82 Ro
 h24:T.has 24 ZK
theorem Zg (src:Bytes):Low 1 (.agg [.lst ((fM src).1.map dA.av) .none,.int .i64 0,.lst ((fM src).2.map bO.av) (bK (fM src).2.length 0),.bool false]):=
 .agg _ (gq.at ⟨jO _ _ _ trivial,.int _ _,gM _ _ _ (dO (by decide)),.bool _,trivial⟩)
theorem Vz.of (F:Vz T) (src:Bytes) (hs:src.length≤2^32) {H:Heap} {K KP:au→Heap→Prop} (J:Heap) (hH:H=.dead::J)
  (hk:K (.agg [.lst ((fM src).1.map dA.av) .none,.int .i64 0,.lst ((fM src).2.map bO.av) (bK (fM src).2.length 0),.bool false]) (bC (fM src).2.length 127::J)):aC T.L 39 [.str src] H (eB K KP):=by
 subst hH;exact(aC.at1 (Wu F.h39 F.h58 F.h79 F.h80 F.h81 F.h82 src hs) (dD (.str _)) trivial (Zg src) (bG _ _ _) J).mono fun r H' ⟨e1,e2⟩=>by subst e1 e2;exact hk
def oq (src:Bytes):Nat:=6*(bE src).rem+8
def mR :Nat→RS→RS
 |0,s=>s
 |n+1,s=>if(s.tok.kind !=6&& !isR s jd)=true then mR n {s with i:=s.i+1}else s
def oM (s:RS):RS:=mR s.rem {s with bad:=false}
def jl (s:RS):RS:=if isR s jd then{s with i:=s.i+1}else s
def jF (n:Nat):Nat→List dV→RS→List dV×RS
 |0,l,s=>(l,s)
 |k+1,l,s=>if(s.tok.kind !=6)=true then
   (if(fH n s).2.bad=true then jF n k l (jl (oM (fH n s).2))else jF n k (l ++[(fH n s).1]) (fH n s).2)
  else(l,s)
def gH (src:Bytes):List dV×RS:=jF (oq src) (bE src).rem [] (bE src)
structure RS.okN (s:RS) (b:Nat):Prop where
 lt:s.i<s.toks.length
 more:∀j t,s.toks[j]?=some t→t.kind≠6→j+1<s.toks.length
 len:s.toks.length≤2^33
 txt:∀t∈s.toks,t.text.length≤2^40
 room:s.pot+b≤2^35
 named:∀t∈s.toks,t.kind=1→t.text≠[]
 num:∀t∈s.toks,t.kind=3→yT t.text
theorem RS.okN.ok {s:RS} {b:Nat} (h:s.okN b):s.ok:=⟨h.lt,h.more,h.len,h.txt,by have:=h.room;omega,h.named,h.num⟩
theorem RS.okN.of {s s':RS} {b:Nat} (hs:s.okN b) (h:s.le s'):s'.okN b:=⟨by rw[h.toks];exact h.lt,by rw[h.toks];exact hs.more,by rw[h.toks];exact hs.len,by rw[h.toks];exact hs.txt,by have:=h.pot;have:=hs.room;omega,by rw[h.toks];exact hs.named,by rw[h.toks];exact hs.num⟩
theorem RS.okN.mono {s:RS} {b c:Nat} (h:s.okN b) (hc:c≤b):s.okN c:=⟨h.lt,h.more,h.len,h.txt,by have:=h.room;omega,h.named,h.num⟩
theorem RS.okN.good {s:RS} {b:Nat} (h:s.okN (b+1)):({s with bad:=false}:RS).okN b:=⟨h.lt,h.more,h.len,h.txt,by
 have:=h.room;unfold RS.pot at*;simp only
 split at this<;>simp<;>omega,h.named,h.num⟩
theorem BR :∀(n:Nat) (s:RS),s.ok→s.le (mR n s)
 |0,s,h=>RS.le.refl h
 |n+1,s,h=>by
  rw[mR];split
  ·rename_i hk
   have h1:=mV h (by simp at hk;exact hk.1);exact h1.trans (BR n _ (h.of h1))
  ·exact RS.le.refl h
theorem Hl {s:RS} (h:s.ok):s.le (jl s):=by
 unfold jl;split
 ·rename_i hi;exact mV h (wG hi).1
 ·exact RS.le.refl h
theorem Nv {n:Nat} {s:RS} (hs:s.ok) (hb:s.bad=false):s.i<(fH n s).2.i∨fH n s=(⟨0,0,[],[],[]⟩,cZ s 2):=by
 have tk:=fun(s:RS) (h:s.ok) (w:Bytes)=>aL h w
 have hE:∀(t:dA) (ts:List TA) (s:RS),s.ok→s.le (uI n t ts s).2:=fun t ts s hs=>by
  have k1:=tk s hs kEq;have k2:=k1.trans ((fT n).expr 1 _ (hs.of k1));exact k2.trans (tk _ (hs.of k2) jd)
 have first:∀(w:Bytes) (r:RS),isR s w=true→(aD s w).le r→s.i<r.i:=fun w r h1 h2=>by
  have:=h2.i;rw[jL h1]at this;simp only at this;omega
 unfold fH;split
 ·rename_i h
  have k1:=hs.of (tk s hs EP);have k2:=bS k1;exact .inl (first _ _ h (k2.trans (tk _ (k1.of k2) jd)))
 ·split
  ·rename_i h
   have k1:=hs.of (tk s hs nI);have k2:=bS k1;have k3:=k2.trans (tk _ (k1.of k2) kEq);have k4:=k3.trans ((bN n).1 1 _ (k1.of k3));exact .inl (first _ _ h (k4.trans (tk _ (k1.of k4) jd)))
  ·split
   ·rename_i h
    have k1:=hs.of (tk s hs uy);have k2:=bS k1;refine .inl (first _ _ h ?_);unfold BA;split
    ·have k3:=k2.trans (tk _ (k1.of k2) aS)
     have k4:=k3.trans ((bN n).1 1 _ (k1.of k3));exact k4.trans (hE _ _ _ (k1.of k4))
    ·exact k2.trans (hE _ _ _ (k1.of k2))
   ·exact .inr rfl
theorem Ml {s:RS} (h:s.ok) (hb:s.bad=false) (hk:s.tok.kind≠6):s.i<(jl (mR s.rem s)).i:=by
 have hr:0<s.rem:=by have:=h.lt;unfold RS.rem;omega
 obtain⟨m,hm⟩:∃m,s.rem=m+1:=⟨s.rem-1,by omega⟩;rw[hm,mR];cases hi:isR s jd
 ·rw[if_pos (by simp[hk])]
  have h1:=mV h hk;have h2:=BR m _ (h.of h1);have h3:=Hl ((h.of h1).of h2);have:=(h2.trans h3).i;simp only at this;omega
 ·rw[if_neg (by simp)]
  unfold jl;rw[if_pos hi];simp
theorem vY {n : Nat} {s : RS} {b : Nat} (hs : s.okN (b + 1)) (hb : s.bad = false) (hk : s.tok.kind ≠ 6) :
    ((fH n s).2.bad = false → (fH n s).2.okN b ∧ (fH n s).2.rem + 1 ≤ s.rem) ∧
    ((fH n s).2.bad = true → (jl (oM (fH n s).2)).okN b ∧ (jl (oM (fH n s).2)).rem + 1 ≤ s.rem ∧ (jl (oM (fH n s).2)).bad = false) := by
  have hle := Ch (n := n) hs.ok
  have hmv := Nv (n := n) hs.ok hb
  have hok := hs.of hle
  refine ⟨fun h => ⟨hok.mono (by omega), ?_⟩, fun h => ?_⟩
  · rcases hmv with h1 | h1
    · have := hle.lt
      unfold RS.rem; rw [hle.toks]; omega
    · rw [h1] at h; rw [fU] at h; cases h
  · generalize hr : (fH n s).2 = r at hle hmv hok h ⊢
    have g1 := hok.good
    have e1 : oM r = mR ({ r with bad := false } : RS).rem { r with bad := false } := rfl
    have l1 := BR ({ r with bad := false } : RS).rem { r with bad := false } g1.ok
    have l2 := l1.trans (Hl (g1.ok.of l1))
    rw [← e1] at l2
    refine ⟨g1.of l2, ?_, ?_⟩
    · have key : s.i < (jl (oM r)).i := by
        rcases hmv with h1 | h1
        · have := l2.i; simp only at this; omega
        · have hri : r.i = s.i ∧ r.toks = s.toks := by
            have : r = cZ s 2 := by rw [← hr, h1]
            rw [this]; unfold cZ; rw [hb]; exact ⟨rfl, rfl⟩
          have := Ml g1.ok rfl (by
            show ({ r with bad := false } : RS).tok.kind ≠ 6
            unfold RS.tok
            simp only
            rw [hri.1, hri.2]
            exact hk)
          rw [← e1] at this
          simp only at this
          omega
      have hlt := l2.lt
      simp only at hlt
      have ht := l2.toks
      simp only at ht
      unfold RS.rem
      rw [ht, hle.toks]
      rw [hle.toks] at hlt
      omega
    · have Kv : ∀ (n : Nat) (s : RS), (mR n s).bad = s.bad := fun n => by
        induction n with
        | zero => intro s; rfl
        | succ n ih => intro s; rw [mR]; split
                       · rw [ih]
                       · rfl
      have : (jl (oM r)).bad = (oM r).bad := by unfold jl; split <;> rfl
      rw [this, e1, Kv]
theorem Ba (l:List dV):dB 5 (l.map dV.av):=fun x hx=>by
 obtain⟨t,_,rfl⟩:=List.mem_map.1 hx;exact⟨rfl,rfl⟩
theorem wE (n:Nat) (l:List dV):∀x∈l.map dV.av,Low n x:=fun x hx=>by
 obtain⟨t,_,rfl⟩:=List.mem_map.1 hx;exact vE n t
theorem H6 (F:Vz T) (src:Bytes) (hs:src.length≤2^32):Pure T.L 24 [.str src] (.tup [.lst ((gH src).1.map dV.av) .none,.lst ((gH src).2.diags.map bO.av) .none]):=by
 refine Pure.Ms 2 (dD (.str _)) (.tup _ (gq.at ⟨.lst _ _ trivial (wE _ _),gM _ _ _ trivial,trivial⟩)) (aG F.h24 (by simp[ZK]) ?_);obtain⟨hok,hlen,hdl⟩:=mQ src hs;obtain⟨R,hR⟩:∃R,gH src=R:=⟨_,rfl⟩;rw[hR];unfold gH at hR;have hn:6*(bE src).rem+8≤oq src:=Nat.le_refl _;generalize oq src=n at hR hn;conv=>whnf
 refine F.of src hs _ rfl ?_;conv=>whnf
 intro I hI hG
 have key:∀(k:Nat) (s:RS) (l:List dV) (XS:List au) (e:Env),s.okN k→s.bad=false→s.rem≤k→6*s.rem+8≤n→l.length+s.rem≤2^34→R=jF n k l s→XS=l.map dV.av→
   I (gB e [(4,.ptr 2 0),(5,.lst XS (bK XS.length 1))]) [gI s,bC XS.length 67,j6 s]:=by
  intro k
  induction k with
  |zero=>
   intro s l XS e hk hb hr;have:=hk.lt;unfold RS.rem at hr;omega
  |succ k ih=>
   intro s l XS e hsN hb hr hfu hll hv hX;have hs1:=hsN.ok;rw[jF]at hv
   have next:∀(s2:RS) (l2:List dV) (YS:List au) (e2:Env) (H2:Heap),s2.okN k→s2.bad=false→s2.rem≤k→6*s2.rem+8≤n→l2.length+s2.rem≤2^34→R=jF n k l2 s2→YS=l2.map dV.av→
     H2.take 3=[gI s2,bC YS.length 67,j6 s2]→fC e2 [(4,.ptr 2 0),(5,.lst YS (bK YS.length 1))]→I e2 H2:=fun s2 l2 YS e2 H2 c1 c2 c3 c4 c5 c6 c7 c8 c9=>
    hG.keep [(4,.ptr 2 0),(5,.lst YS (bK YS.length 1))] [gI s2,bC YS.length 67,j6 s2] (Nat.le_refl 3) c8 c9
     ⟨.ptr _ _ (by decide:2<3),.lst _ _ (dO (by decide:1<3)) (by rw[c7];exact wE _ _),trivial⟩
     ⟨bG _ _ _,bG _ _ _,nH (n:=3) (by decide) _,trivial⟩ (ih s2 l2 YS _ c1 c2 c3 c4 c5 c6 c7)
   apply hI;conv=>whnf
   refine jM hs1 ?_;conv=>whnf
   refine⟨Nat.zero_le _,?_⟩;conv=>whnf
   cases hk6:(s.tok.kind !=6)
   ·rw[if_neg (by simp[hk6])]at hv
    subst hv hX;conv=>whnf
    exact aH (Weak.tup ⟨Weak.tok _ _,Weak.tok _ _,trivial⟩)
   ·rw[if_pos hk6]at hv
    conv=>whnf
    have hd:=Rk F.touF n s hs1 hfu;have hle:=Ch (n:=n) hs1;have hrr:=vY (n:=n) hsN hb (by simpa using hk6);obtain⟨q,hq⟩:∃q,fH n s=q:=⟨_,rfl⟩;rw[hq]at hd hle hrr hv;have hs2:=hs1.of hle;refine hd.to2 fK (vE _ _) _ _ rfl ?_;conv=>whnf
    cases hb2:q.2.bad
    ·rw[if_neg (by simp[hb2])]at hv
     obtain⟨k1,k2⟩:=hrr.1 hb2;conv=>whnf
     refine dS (id:=1) (by rw[hX];exact Ba l) (bP rfl) (by rw[hX];simp;omega) (by rw[hX];simp;omega) (by simp) rfl ?_;conv=>whnf
     exact next q.2 (l ++[q.1]) _ _ _ k1 hb2 (by omega) (by omega) (by simp;omega) hv (by rw[hX];simp;rfl) rfl ⟨rfl,rfl,trivial⟩
    ·rw[if_pos hb2]at hv
     obtain⟨k1,k2,k3⟩:=hrr.2 hb2;have hgood:=((hsN.of hle).good).ok;obtain⟨g,hg⟩:∃g:RS,({q.2 with bad:=false}:RS)=g:=⟨_,rfl⟩;have hag:oM q.2=mR g.rem g:=by rw[←hg];rfl
     rw[hag]at hv k1 k2 k3;rw[hg]at hgood;have hgb:g.bad=false:=by rw[←hg]
     conv=>whnf
     intro I2 hI2 hG2
     have key2:∀(m:Nat) (s':RS) (e:Env),s'.ok→s'.bad=false→s'.rem≤m→mR g.rem g=mR m s'→
       I2 (gB e [(4,.ptr 2 0),(5,.lst XS (bK XS.length 1))]) [gI s',bC XS.length 67,j6 s',.cells [.int .i64 q.1.kind,.int .i64 q.1.at_,.str q.1.name,.lst (TA.avs q.1.ts) .none,.lst (EA.avs q.1.es) .none] 67]:=by
      intro m
      induction m with
      |zero=>
       intro s' e h1 _ h2;have:=h1.lt;unfold RS.rem at h2;omega
      |succ m ihm=>
       intro s' e h1 hb' h2 h3;rw[mR]at h3;apply hI2;conv=>whnf
       refine jM h1 ?_;conv=>whnf
       refine⟨Nat.zero_le _,?_⟩;conv=>whnf
       have fin:mR g.rem g=s'→∀(e2:Env) (H2:Heap),fC e2 [(4,.ptr 2 0),(5,.lst XS (bK XS.length 1))]→H2.take 3=[gI (jl s'),bC XS.length 67,j6 (jl s')]→I e2 H2:=fun h4 e2 H2 he hH=>by
        rw[h4]at hv k1 k2 k3;exact next (jl s') l XS e2 H2 k1 k3 (by omega) (by omega) (by omega) hv hX hH he
       cases hk:(s'.tok.kind !=6)
       ·rw[if_neg (by simp[hk])]at h3
        have OH:isR s' jd=false:=by
         cases h:isR s' jd
         ·rfl
         ·exact absurd (wG h).1 (by simpa using hk)
        conv=>whnf
        refine(Ca F.h41 s' h1 jd).to2 (dD (.str _)) (.bool _) _ _ rfl ?_;rw[OH];conv=>whnf
        have hse:jl s'=s':=by unfold jl;rw[if_neg (by simp[OH])]
        exact fin h3 _ _ ⟨rfl,rfl,trivial⟩ (by rw[hse];rfl)
       ·conv=>whnf
        refine(Ca F.h41 s' h1 jd).to2 (dD (.str _)) (.bool _) _ _ rfl ?_;cases hi:isR s' jd
        ·rw[if_pos (by simp[hk,hi])]at h3
         conv=>whnf
         rw[addN h1.i];have hle2:=mV h1 (by simpa using hk);have hlt:=hle2.lt;simp only at hlt;exact inv_of [(4,.ptr 2 0),(5,.lst XS (bK XS.length 1))] ⟨rfl,rfl,trivial⟩ (ihm {s' with i:=s'.i+1} _ (h1.of hle2) hb' (by unfold RS.rem at*;simp only;omega) h3)
        ·rw[if_neg (by simp[hi])]at h3
         conv=>whnf
         refine(Ca F.h41 s' h1 jd).to2 (dD (.str _)) (.bool _) _ _ rfl ?_;rw[hi];conv=>whnf
         rw[addN h1.i];have hse:jl s'={s' with i:=s'.i+1}:=by unfold jl;rw[if_pos hi]
         exact fin h3 _ _ ⟨rfl,rfl,trivial⟩ (by rw[hse];rfl)
     subst hg;exact inv_of [(4,.ptr 2 0),(5,.lst XS (bK XS.length 1))] ⟨rfl,rfl,trivial⟩ (key2 _ _ _ hgood hgb (Nat.le_refl _) rfl)
 have Aj:(bE src).rem≤src.length+1:=by unfold RS.rem;omega
 refine inv_of [(4,.ptr 2 0),(5,.lst [] .nil)] ⟨rfl,rfl,trivial⟩ (key (bE src).rem (bE src) [] [] _ ⟨hok.lt,hok.more,hok.len,hok.txt,?_,hok.named,hok.num⟩ rfl (Nat.le_refl _) hn (by simp;omega) hR.symm rfl)
 have hp:(bE src).pot≤(bE src).diags.length+2*(bE src).toks.length+1:=by
  unfold RS.pot;split<;>omega
 omega
end Go.Ag
/- Package lex: Lex. -/
namespace Go.Ag
open Go
variable {T : Tab} {L : Lnk}
theorem Kk {src:Bytes} {k:Nat} {c:UInt8} (h:src[k]?=some c):k<(bB src k c).1∧(bB src k c).1≤src.length:=by
 obtain⟨hlt,hc⟩:=List.getElem?_eq_some_iff.1 h
 have yes:∀{p:UInt8→Bool},p c=true→k<iI p src k∧iI p src k≤src.length:=fun{p} hp=>by
  rw[rY hlt (by rw[hc];exact hp)];exact lQ hlt
 unfold bB;split
 ·exact⟨Nat.lt_succ_self _,hlt⟩
 split
 ·rename_i h1
  exact yes (p:=fun c=> !inA c [10]) (by rw[beq_iff_eq.1 h1];rfl)
 split
 ·rename_i h1
  exact yes (p:=(inA · bW)) (EC h1)
 split
 ·rename_i h1
  have:=yes (p:=(inA · bD)) h1;split<;>exact this
 split
 ·have:=lQ (p:=fun c=> !inA c [34,10]) (src:=src) (k:=k+1) hlt
  split
  ·rename_i h2
   have h3:=(List.getElem?_eq_some_iff.1 h2).1;exact⟨Nat.lt_succ_of_lt this.1,h3⟩
  ·exact⟨this.1,this.2⟩
 split
 ·rename_i h2
  have h3:=(List.getElem?_eq_some_iff.1 h2.2).1;exact⟨by show k<k+2;omega,h3⟩
 split
 ·exact⟨Nat.lt_succ_self _,hlt⟩
 ·exact⟨Nat.lt_succ_self _,hlt⟩
theorem VD (F:yx T) (src:Bytes) (hs:src.length≤2^31):
  bX T.L 215 [.str src] [.dead,.dead] (.tup [.lst ((fM src).1.map dA.av) .none,.lst ((fM src).2.map bO.av) (bK (fM src).2.length 1)]) [.gone,bC (fM src).2.length 333]:=by
 refine bX.of 0 rfl (.tup _ (gq.at ⟨jO _ _ _ trivial,gM _ _ _ (dO (by decide)),trivial⟩)) (eX.at ⟨trivial,bG _ _ _,trivial⟩) (aC.mono (Q:=fun r H'=>∃x o J,r=.ret x∧Weak T.L x (.tup [.lst ((fM src).1.map dA.av) .none,.lst ((fM src).2.map bO.av) (bK (fM src).2.length 1)])∧H'=o::bC (fM src).2.length 333::J) ?_ fun r H' ⟨x,o,J,e1,e2,e3⟩=>⟨x,[o,bC (fM src).2.length 333],J,e1,e2,e3,rfl,fun i p q hp hq=>?_⟩)
 ·refine aG F.XF (by simp[UZ]) ?_
  conv=>whnf
  intro I hI hG
  have key:∀(n:Nat) (s:SC) (e:Env),s.src=src→s.ok→src.length-s.at_≤n→iK src src.length 0 [] []=iK src n s.at_ s.toks s.diags→
    I (gB e [(0,.str src),(4,.ptr 2 0)]) (uV s):=by
   intro n
   induction n with
   |zero=>
    intro s e h1 h2 h3 h4;subst h1;have hk:s.at_=s.src.length:=by have:=h2.at_;omega
    apply hI;conv=>whnf
    rw[bU (by omega)];conv=>whnf
    refine zC h2 ⟨6,s.src.length,[]⟩ rfl rfl ?_;conv=>whnf
    have hla:fM s.src=(s.toks ++[⟨6,s.src.length,[]⟩],s.diags):=by unfold fM;rw[h4,iK]
    rw[hla];exact⟨_,_,_,rfl,Weak.tup ⟨Weak.tok _ _,Weak.refl _,trivial⟩,rfl⟩
   |succ n ih=>
    intro s e h1 h2 h3 h4;subst h1;apply hI;conv=>whnf
    rcases Nat.lt_or_ge s.at_ s.src.length with hlt|hge
    ·rw[dz hlt]
     conv=>whnf
     refine(MQ F s h2 hlt).to (fun x hx=>by cases hx) bH [] (List.append_nil _).symm ?_;have hat:s.src[s.at_]?=some s.src[s.at_]:=List.getElem?_eq_getElem hlt;have h5:=Kk hat;obtain⟨h6,h7,_⟩:=xC s.src s.at_ s.src[s.at_];rw[iK,hat]at h4;have hok:(AR s s.src[s.at_]).ok:=⟨h2.src,h5.2,by have:=h2.toks;simp only[AR,List.length_append];omega,by have:=h2.diags;simp only[AR,List.length_append];omega⟩;have hI':=fun e=>ih (AR s s.src[s.at_]) e rfl hok (by show s.src.length-(bB s.src s.at_ s.src[s.at_]).1≤n;omega) h4
     generalize AR s s.src[s.at_]=s2 at hI'⊢;conv=>whnf
     rw[List.append_nil];exact inv_of [(0,.str s.src),(4,.ptr 2 0)] ⟨rfl,rfl,trivial⟩ (hI' _)
    ·rw[bU hge]
     conv=>whnf
     refine zC h2 ⟨6,s.src.length,[]⟩ rfl rfl ?_;conv=>whnf
     have hla:fM s.src=(s.toks ++[⟨6,s.src.length,[]⟩],s.diags):=by unfold fM;rw[h4,iK,List.getElem?_eq_none hge]
     rw[hla];exact⟨_,_,_,rfl,Weak.tup ⟨Weak.tok _ _,Weak.refl _,trivial⟩,rfl⟩
  exact inv_of [(0,.str src),(4,.ptr 2 0)] ⟨rfl,rfl,trivial⟩ (key src.length ⟨src,0,[],[]⟩ _ rfl ⟨hs,Nat.zero_le _,Nat.zero_le _,Nat.zero_le _⟩ (Nat.sub_le _ _) rfl)
 ·match i,hp,hq with
  |0,hp,hq=>simp at hp hq;subst hp hq;cases o<;>trivial
  |1,hp,hq=>simp at hp hq;subst hp hq;exact bJ.refl _
  |n+2,hp,hq=>simp at hp
end Go.Ag
/- Package parse: just, Type. -/
namespace Go.Ag
open Go
variable {T : Tab} {L : Lnk}
theorem jf.atL {f:Nat} {args:List au} {H0 H1:Heap} {r0:fE} (h:jf L f args H0 r0 H1) (hlen:H1.length=H0.length) {H:Heap} (is:List Nat) (hp:Part H is H0):
  aC L f (args.map (ren (nameOf is H.length))) H fun r H'=>r=zT (nameOf is H.length) r0∧H'=mG H is (H1.map (gV (nameOf is H.length))):=by
 have hf:=aC.mY h is hp (.inr fun r H' hq=>by rw[hq.2,hlen];exact Nat.le_refl _);refine hf.mono fun r H' ⟨r1,H1',⟨e1,e2⟩,_,e3,e4⟩=>?_
 subst e1 e2;have hl:is.length=H1'.length:=hp.2.1.trans hlen.symm;refine⟨e3,?_⟩;rw[e4,hl,List.take_of_length_le (Nat.le_refl _),List.drop_of_length_le (Nat.le_refl _),List.map_nil,List.append_nil]
theorem kF {ρ:Nat→Nat} {x:au} (h:Low 0 x):ren ρ x=x:=iR (n:=0) (fun i hi=>by omega) h
theorem sj {ρ:Nat→Nat} {xs:List au} (h:∀x∈xs,Low 0 x):iD ρ xs=xs:=by
 rw[fG];exact(List.map_congr_left (g:=id) fun x hx=>kF (h x hx)).trans (List.map_id xs)
theorem gD {ρ:Nat→Nat} {o:aU} (h:bI 0 o):gV ρ o=o:=jm (n:=0) (fun i hi=>by omega) h
theorem Fx (ρ:Nat→Nat) (n i:Nat):Ht ρ (bK n i)=bK n (ρ i):=by cases n<;>rfl
theorem rZ (ρ:Nat→Nat) (n t:Nat):gV ρ (bC n t)=bC n t:=by cases n<;>rfl
theorem Fb (l:List dA):∀x∈l.map dA.av,Low 0 x:=fun x hx=>by
 obtain⟨t,_,rfl⟩:=List.mem_map.1 hx;exact nQ 0 t
theorem Ei (l:List bO):∀x∈l.map bO.av,Low 0 x:=fun x hx=>by
 obtain⟨t,_,rfl⟩:=List.mem_map.1 hx;exact Ke 0 t
def qm (d:Nat) (s:RS):aU:=.cells [.lst (s.toks.map dA.av) .none,.int .i64 s.i,.lst (s.diags.map bO.av) (bK s.diags.length d)] 280
theorem vZ (ρ:Nat→Nat) (s:RS):gV ρ (Wq s)=qm (ρ 0) s:=by
 unfold Wq qm;simp only[gV,iD,ren,Fx,sj (Fb _),sj (Ei _)];rfl
theorem VE (F:yx T) (src:Bytes) (hs:src.length≤2^31) {H:Heap} {i j:Nat} (hi:H[i]?=some .dead) (hj:H[j]?=some .dead) (hij:i≠j):
  aC T.L 215 [.str src] H fun r H'=>r=.ret (.tup [.lst ((fM src).1.map dA.av) .none,.lst ((fM src).2.map bO.av) (bK (fM src).2.length j)])∧H'=(H.set i .gone).set j (bC (fM src).2.length 333):=by
 have hp:Part H [i,j] [.dead,.dead]:=by
  refine⟨by simp[hij],rfl,fun k q o hk ho=>?_⟩
  match k,hk,ho with
  |0,hk,ho=>simp at hk ho;subst hk ho;exact hi
  |1,hk,ho=>simp at hk ho;subst hk ho;exact hj
  |k+2,hk,ho=>simp at hk
 have h0:jf T.L 215 [.str src] [.dead,.dead] (.ret _) _:=VD F src hs;have h:=jf.atL h0 rfl [i,j] hp;refine h.mono fun r H' ⟨e1,e2⟩=>⟨?_,?_⟩
 ·rw[e1]
  simp only[zT,ren,iD,Fx,sj (Fb _),sj (Ei _)];rfl
 ·rw[e2]
  simp only[List.map_cons,List.map_nil,rZ,mG];rfl
theorem PC.at2 {f:Nat} {args:List au} {s s':RS} {y:au} (h:PC L f args s y s') (hargs:∀x∈args,Low 0 x) (hy:Low 0 y) {H:Heap} {d p:Nat} (hd:H[d]?=some (bC s.diags.length 333)) (hp:H[p]?=some (qm d s)) (hdp:d≠p):
  aC L f (.ptr p 0::args) H fun r H'=>r=wX s'.bad y∧H'=(H.set d (bC s'.diags.length 333)).set p (qm d s'):=by
 have hpt:Part H [d,p] (aW s):=by
  refine⟨by simp[hdp],rfl,fun k q o hk ho=>?_⟩
  match k,hk,ho with
  |0,hk,ho=>simp[aW]at hk ho;subst hk ho;rw[rZ];exact hd
  |1,hk,ho=>simp[aW]at hk ho;subst hk ho;rw[vZ];exact hp
  |k+2,hk,ho=>simp at hk
 have h:=jf.atL h rfl [d,p] hpt
 have ha:(au.ptr 1 0::args).map (ren (nameOf [d,p] H.length))=.ptr p 0::args:=by
  rw[List.map_cons,show args.map (ren (nameOf [d,p] H.length))=args from by rw[←fG];exact sj hargs];rfl
 rw[ha]at h;refine h.mono fun r H' ⟨e1,e2⟩=>⟨?_,?_⟩
 ·rw[e1]
  cases s'.bad
  ·exact congrArg fE.ret (kF hy)
  ·exact congrArg fE.pan (kF Ih)
 ·rw[e2]
  simp only[aW,List.map_cons,List.map_nil,rZ,vZ,mG];rfl
theorem do_at {f:Nat} {s s':RS} {o o':aU} (h:jf L f [.ptr 1 0,.ptr 2 0] (aW s ++[o]) (wX s'.bad (.tup [])) (aW s' ++[o'])) (ho:bI 0 o) (ho':bI 0 o') {H:Heap} {d p c:Nat}
  (hd:H[d]?=some (bC s.diags.length 333)) (hp:H[p]?=some (qm d s)) (hc:H[c]?=some o) (hn:[d,p,c].Nodup):
  aC L f [.ptr p 0,.ptr c 0] H fun r H'=>r=wX s'.bad (.tup [])∧H'=((H.set d (bC s'.diags.length 333)).set p (qm d s')).set c o':=by
 have hpt:Part H [d,p,c] (aW s ++[o]):=by
  refine⟨hn,rfl,fun k q x hk hx=>?_⟩
  match k,hk,hx with
  |0,hk,hx=>simp[aW]at hk hx;subst hk hx;rw[rZ];exact hd
  |1,hk,hx=>simp[aW]at hk hx;subst hk hx;rw[vZ];exact hp
  |2,hk,hx=>simp[aW]at hk hx;subst hk hx;rw[gD ho];exact hc
  |k+3,hk,hx=>simp at hk
 refine(jf.atL h rfl [d,p,c] hpt).mono fun r H' ⟨e1,e2⟩=>⟨?_,?_⟩
 ·rw[e1]
  cases s'.bad
  ·exact congrArg fE.ret (kF bH)
  ·exact congrArg fE.pan (kF Ih)
 ·rw[e2]
  simp only[aW,List.cons_append,List.nil_append,List.map_cons,List.map_nil,rZ,vZ,gD ho',mG];rfl
structure wV (L:Lnk):Prop where
 caught:∀(g:Nat) (free:List au) (H:Heap) (b:Bool) (Q:Heap→Prop),aC L g free H (fun r H'=>r=wX b (.tup [])∧Q H')→aC L 216 [.fn (.func g) [] free] H fun r H'=>r=.ret (.bool !b)∧Q H'
theorem aC.toR {f:Nat} {args:List au} {H H1:Heap} {r0:fE} (h:aC L f args H fun r H'=>r=r0∧H'=H1) {K KP:au→Heap→Prop} (hk:eB K KP r0 H1):aC L f args H (eB K KP):=
 h.mono fun r H' ⟨e1,e2⟩=>by subst e1 e2;exact hk
theorem wV.to (B:wV L) {g:Nat} {free:List au} {H H1:Heap} {b:Bool} (h:aC L g free H fun r H'=>r=wX b (.tup [])∧H'=H1) {K KP:au→Heap→Prop} (hk:K (.bool !b) H1):aC L 216 [.fn (.func g) [] free] H (eB K KP):=
 (B.caught g free H b (fun H'=>H'=H1) h).to1 hk
structure I9 (T:Tab):Prop extends GD T where
 lex:yx T
 XQ:T.has 182 U9
 XE:T.has 217 UY
 cau:wV T.L
def uG (s:RS):Bool:= !s.bad&&(s.tok.kind==6&&s.diags.length==0)
theorem QC (F:I9 T) (src:Bytes) (hs:src.length≤2^31) (g:Nat) (o o':aU) (ho:bI 0 o) (ho':bI 0 o') (s':RS) (hle:(bE src).le s')
  (hdo:jf T.L g [.ptr 1 0,.ptr 2 0] (aW (bE src) ++[o]) (wX s'.bad (.tup [])) (aW s' ++[o'])):
  bX T.L 182 [.str src,.fn (.func g) [] [.ptr 0 0]] [o] (.bool (uG s')) [o']:=by
 have hok:=(mQ src (by omega)).1;have hs':=hok.of hle;refine bX.of 2 rfl (.bool _) (eX.at ⟨aI (Nat.zero_le _) ho',trivial⟩) (aC.mono (Q:=fun r H'=>∃J,r=.ret (.bool (uG s'))∧H'=o'::J) ?_ fun r H' ⟨J,e1,e2⟩=>⟨_,[o'],J,e1,Weak.refl _,e2,rfl,fun i x y h1 h2=>by rw[h1]at h2;cases h2;exact bJ.refl x⟩);refine aG F.XQ (by simp[U9]) ?_;conv=>whnf
 refine(VE F.lex src hs (i:=1) (j:=2) rfl rfl (by decide)).to1 ?_;conv=>whnf
 refine F.cau.to (b:=s'.bad) (H1:=[o',.gone,bC s'.diags.length 333,.cells [.fn (.func g) [] [.ptr 0 0]] 227,qm 2 s',.cells [.ptr 4 0] 225]) ?_ ?_
 ·refine aG F.XE (by simp[UY]) ?_
  conv=>whnf
  refine(do_at hdo ho ho' (d:=2) (p:=4) (c:=0) rfl rfl rfl (by decide)).toR ?_;cases s'.bad
  ·conv=>whnf
   exact⟨rfl,rfl⟩
  ·conv=>whnf
   exact⟨rfl,rfl⟩
 ·conv=>whnf
  cases hb:s'.bad
  ·conv=>whnf
   refine((Ak F.todZ s' hs' hb).at2 (fun x hx=>by cases hx) (nQ 0 _) (d:=2) (p:=4) rfl rfl (by decide)).toR ?_;rw[hb];conv=>whnf
   cases hk:(s'.tok.kind==6)
   ·conv=>whnf
    exact⟨_,by rw[uG,hb,hk];rfl,rfl⟩
   ·conv=>whnf
    have hj:uG s'=(((s'.diags.map bO.av).length:Int)==0):=by
     rw[uG,hb,hk,List.length_map];rw[Bool.eq_iff_iff];simp
    exact⟨_,by rw[hj];rfl,rfl⟩
  ·conv=>whnf
   exact⟨_,by rw[uG,hb];rfl,rfl⟩
end Go.Ag
/- Package parse: Type. -/
namespace Go.Ag
open Go
variable {T : Tab} {L : Lnk}
theorem WK {g:Nat} {src:Bytes} {o o':aU} {b:Bool} (h:bX L 182 [.str src,.fn (.func g) [] [.ptr 0 0]] [o] (.bool b) [o']) (ho:bI 0 o) (ho':bI 0 o') {H:Heap} {c:Nat} (hc:H[c]?=some o):
  aC L 182 [.str src,.fn (.func g) [] [.ptr c 0]] H fun r H'=>r=.ret (.bool b)∧H'=H.set c o':=by
 have hp:Part H [c] [o]:=by
  refine⟨by simp,rfl,fun k q x hk hx=>?_⟩
  match k,hk,hx with
  |0,hk,hx=>simp at hk hx;subst hk hx;rw[gD ho];exact hc
  |k+1,hk,hx=>simp at hk
 have h0:jf L 182 [.str src,.fn (.func g) [] [.ptr 0 0]] [o] (.ret (.bool b)) [o']:=h;refine(jf.atL h0 rfl [c] hp).mono fun r H' ⟨e1,e2⟩=>⟨e1,?_⟩
 rw[e2];simp only[List.map_cons,List.map_nil,gD ho',mG]
structure zG (T:Tab):Prop extends I9 T where
 X7:T.has 142 Vn
 XP:T.has 183 U8
def lJ (src:Bytes):Nat:=6*(bE src).rem+6
def E9 (src:Bytes):TA×RS:=bM (lJ src) 1 (bE src)
def gJ (src:Bytes):TA×Bool:=if uG (E9 src).2=true then((E9 src).1,true)else(mJ,false)
def bf :TA→aU
 |.mk k nm ns l=>.cells [.int .i64 k,.str nm,.lst (aO ns) .none,.lst (TA.avs l) .none] 175
theorem cK (t:TA):bI 0 (bf t):=by
 obtain⟨k,nm,ns,l⟩:=t;exact dH ⟨.int _ _,.str _,dQ _ _ _ trivial,.lst _ _ trivial (aY 0 l),trivial⟩
def rR :aU:=.cells [.int .i64 0,.str [],.lst [] .nil,.lst [] .nil] 175
theorem jR :bI 0 rR:=dH ⟨.int _ _,.str _,.lst _ _ trivial fK,.lst _ _ trivial fK,trivial⟩
theorem Md (F:zG T) (s:RS) (hs:s.ok) (hb:s.bad=false) (n:Nat) (hf:6*s.rem+6≤n):
  jf T.L 183 [.ptr 1 0,.ptr 2 0] (aW s ++[rR]) (wX (bM n 1 s).2.bad (.tup [])) (aW (bM n 1 s).2 ++[if(bM n 1 s).2.bad then rR else bf (bM n 1 s).1]):=by
 have ht:=(Om F.toGD n).typ 1 s hs hb (by omega) hf;generalize bM n 1 s=q at ht⊢;obtain⟨⟨k',nm',ns',l'⟩,s1⟩:=q;dsimp only at ht⊢;refine jf.of 0 rfl (mW bH) (eX.at ⟨bG _ _ _,aI (by decide:2≤3) (Dt s1),by split<;>first|exact aI (Nat.zero_le _) jR|exact aI (Nat.zero_le _) (cK _),trivial⟩) (aC.mono (Q:=fun r H'=>xH T.L r (wX s1.bad (.tup []))∧∃J,H'=aW s1 ++(if s1.bad then rR else bf (.mk k' nm' ns' l'))::J) ?_ fun r H' ⟨e1,J,e2⟩=>⟨_,J,e1,by rw[e2];exact List.append_cons _ _ _,rfl,fun i x y h1 h2=>by rw[h1]at h2;cases h2;exact bJ.refl x⟩);refine aG F.XP (by simp[U8]) ?_;conv=>whnf
 refine ht.to (dD (.int _ _)) (aQ _ _) _ rfl (fun hb1=>?_) fun hb1=>?_
 ·conv=>whnf
  rw[hb1];exact⟨Weak.refl _,_,rfl⟩
 ·conv=>whnf
  rw[hb1];exact⟨Weak.refl _,_,rfl⟩
theorem GA (F:zG T) (src:Bytes) (hs:src.length≤2^31):Pure T.L 142 [.str src] (.tup [(gJ src).1.av,.bool (gJ src).2]):=by
 have hok:=(mQ src (by omega)).1;have h1:=Md F (bE src) hok rfl (lJ src) (Nat.le_refl _);have hle:=(bN (lJ src)).1 1 (bE src) hok;have hj:=QC F.toI9 src hs 183 rR _ jR (by split<;>first|exact jR|exact cK _) _ hle h1;rw[←E9]at hj hle;have hP:=gJ.eq_1 src;generalize E9 src=q at hj hle hP;generalize gJ src=R at hP⊢;refine Pure.run (dD (.str _)) (.tup _ (gq.at ⟨aQ _ _,.bool _,trivial⟩)) (aG F.X7 (by simp[Vn]) ?_);conv=>whnf
 refine(WK hj jR (by split<;>first|exact jR|exact cK _) (c:=1) rfl).to1 ?_;conv=>whnf
 cases hq:uG q.2
 ·rw[if_neg (by simp[hq])]at hP
  subst hP;conv=>whnf
  refine aH ?_;exact Weak.tup ⟨iB,Weak.refl _,trivial⟩
 ·rw[if_pos hq]at hP
  subst hP
  have hb:q.2.bad=false:=by
   unfold uG at hq;cases h:q.2.bad
   ·rfl
   ·rw[h]at hq;cases hq
  rw[hb];obtain⟨⟨k,nm,ns,l⟩,s2⟩:=q;conv=>whnf
  refine aH ?_;exact Weak.tup ⟨Weak.refl _,Weak.refl _,trivial⟩
end Go.Ag
/- Package print: list, round. -/
namespace Go.Ag
open Go
variable {T : Tab} {L : Lnk}
def iT (sep:Bytes):List Bytes→Bytes
 |[]=>[]
 |[w]=>w
 |w::r=>w ++sep ++iT sep r
structure PD (L:Lnk):Prop where
 join:∀(l:List Bytes) (sep:Bytes),(iT sep l).length≤2^46→l.length≤2^40→Pure L 20 [.lst (aO l) .none,.str sep] (.str (iT sep l))
structure yw (T:Tab):Prop where
 XI:T.has 191 U2
 Xu:T.has 230 UJ
 Xj:T.has 262 Ux
 Xi:T.has 263 Uw
 Xh:T.has 264 Uv
 Xg:T.has 265 Uu
 WL:PD T.L
def MO (s:Bytes) (must:Bool):Bytes:=match must with
 |true=>[40] ++s ++[41]
 |false=>s
theorem CZ (F:yw T) (s:Bytes) (hs:s.length≤2^50) (b:Bool):Pure T.L 264 [.str s,.bool b] (.str (MO s b)):=by
 refine Pure.run (gq.at ⟨.str _,.bool _,trivial⟩) (.str _) (aG F.Xh (by simp[Uv]) ?_);cases b
 ·conv=>whnf
  exact aH (Weak.refl _)
 ·conv=>whnf
  refine iO (rG (by simp;omega)) ?_;conv=>whnf
  refine iO (rG (by simp;omega)) ?_;conv=>whnf
  exact aH (Weak.refl _)
theorem bX.to {f:Nat} {args:List au} {H0 H1:Heap} {y:au} (h:bX L f args H0 y H1) (hlen:H1.length=H0.length) (hargs:∀x∈args,Low H0.length x) (h0:∀o∈H0,bI H0.length o) (hy:Low H0.length y) (h1:∀o∈H1,bI H0.length o)
  {H:Heap} {K KP:au→Heap→Prop} (J:Heap) (hH:H=H0 ++J) (hk:K y (H1 ++J)):aC L f args H (eB K KP):=by
 subst hH;exact(bX.at h hlen hargs h0 hy h1 J).to1 hk
theorem FX (F:yw T) (o:aU) (ho:bI 0 o) (g n:Nat) (sep:Bytes) (f:Nat→Bytes) (hn:n≤2^40) (hl:(iT sep ((List.range n).map f)).length≤2^46) (hf:∀i,i<n→bX T.L g [.int .i64 i,.ptr 0 0] [o] (.str (f i)) [o]):
  bX T.L 262 [.int .i64 n,.str sep,.fn (.func g) [] [.ptr 0 0]] [o] (.str (iT sep ((List.range n).map f))) [o]:=by
 have ho1:∀x∈[o],bI 1 x:=eX.at ⟨aI (Nat.zero_le _) ho,trivial⟩;refine bX.of 1 rfl (.str _) ho1 (aC.mono (Q:=fun r H'=>∃J,r=.ret (.str (iT sep ((List.range n).map f)))∧H'=o::J) ?_ fun r H' ⟨J,e1,e2⟩=>⟨_,[o],J,e1,Weak.refl _,e2,rfl,fun i x y h1 h2=>by rw[h1]at h2;cases h2;exact bJ.refl x⟩);refine aG F.Xj (by simp[Ux]) ?_;conv=>whnf
 intro I hI hG
 have key:∀(d k:Nat) (e:Env),n-k=d→k≤n→I (gB e [(1,.str sep),(2,.fn (.func g) [] [.ptr 0 0]),(7,.lst (aO ((List.range k).map f)) (bK (aO ((List.range k).map f)).length 1)),(9,.int .i64 n),(10,.int .i64 k)]) [o,bC (aO ((List.range k).map f)).length 10]:=by
  intro d
  induction d with
  |zero=>
   intro k e hd hk;have hkn:k=n:=by omega
   apply hI;conv=>whnf
   rw[bU (by omega)];conv=>whnf
   rw[hkn];refine((F.WL.join ((List.range n).map f) sep hl (by simp;omega)).weak (args:=[.lst (aO ((List.range n).map f)) (bK (aO ((List.range n).map f)).length 1),.str sep]) ⟨Weak.tok _ _,Weak.refl _,trivial⟩).to ?_;conv=>whnf
   exact⟨_,rfl,rfl⟩
  |succ d ih=>
   intro k e hd hk;have hlt:k<n:=by omega
   have hnext:=fun e=>ih (k+1) e (by omega) hlt
   have e1:aO ((List.range (k+1)).map f)=aO ((List.range k).map f) ++[.str (f k)]:=by simp[List.range_succ,aO]
   have hsl:(aO ((List.range k).map f)).length=k:=by simp[aO]
   rw[e1]at hnext;have hsz:=iY ((List.range k).map f);generalize aO ((List.range k).map f)=XS at hnext hsl hsz⊢;apply hI;conv=>whnf
   rw[dz hlt];conv=>whnf
   refine(hf k hlt).to rfl (gq.at ⟨.int _ _,.ptr _ _ (by decide:0<1),trivial⟩) ho1 (.str _) ho1 [bC XS.length 10] rfl ?_;conv=>whnf
   refine dS (id:=1) hsz (bP rfl) (by simp[hsl];omega) (by simp[hsl];omega) (by simp) rfl ?_;conv=>whnf
   exact inv_of [(1,.str sep),(2,.fn (.func g) [] [.ptr 0 0]),(7,_),(9,.int .i64 n),(10,.int .i64 (k+1:Nat))] ⟨rfl,rfl,rfl,rfl,add1 (by omega),trivial⟩ (hnext _)
 exact inv_of [(1,.str sep),(2,.fn (.func g) [] [.ptr 0 0]),(7,.lst [] .nil),(9,.int .i64 n),(10,.int .i64 0)] ⟨rfl,rfl,rfl,rfl,rfl,trivial⟩ (key n 0 _ rfl (Nat.zero_le _))
end Go.Ag
/- Package print: typ. -/
namespace Go.Ag
open Go
variable {T : Tab} {L : Lnk}
def nJ (ns ss:List Bytes):List Bytes:=List.zipWith (fun n s=>n ++[58,32] ++s) ns ss
mutual
def prT :TA→Nat→Bytes
 |.mk k nm ns l,lv=>
  if k=1 then[105,110,116]
  else if k=2 then[98,111,111,108]
  else if k=3 then[116,101,120,116]
  else if k=4 then[63]
  else if k=5 then[123] ++iT [44,32] (nJ ns (prL l 0)) ++[125]
  else if k=6 then MO ((prL l 2).getD 0 [] ++[32,45,62,32] ++(prL l 1).getD 1 []) (decide (2≤lv))
  else if k=7 then(if l.length=0 then[110,101,118,101,114]else MO (iT [32,124,32] (prL l 1)) (decide (1≤lv)))
  else nm
def prL :List TA→Nat→List Bytes
 |[],_=>[]
 |t::l,lv=>prT t lv::prL l lv
end
theorem qX (l:List TA) (lv:Nat):prL l lv=l.map (prT · lv):=by
 induction l with
 |nil=>rw[prL];rfl
 |cons t l ih=>rw[prL,ih];rfl
mutual
def wtT :TA→Nat
 |.mk k nm ns l=>16+nm.length+(ns.map fun n=>n.length+4).sum+wtL l
def wtL :List TA→Nat
 |[]=>0
 |t::l=>wtT t+8+wtL l
end
mutual
def wfT :TA→Prop
 |.mk k nm ns l=>(k=5→ns.length≤l.length)∧(k=6→2≤l.length)∧wfL l
def wfL :List TA→Prop
 |[]=>True
 |t::l=>wfT t∧wfL l
end
theorem GQ :∀{l:List TA} {t:TA},wfL l→t∈l→wfT t
 |[],t,_,h=>by cases h
 |u::l,t,h,hm=>by
  rw[wfL]at h;rcases List.mem_cons.1 hm with rfl|hm
  ·exact h.1
  ·exact GQ h.2 hm
theorem iP :∀{l:List TA} {t:TA},t∈l→wtT t+8≤wtL l
 |[],t,h=>by cases h
 |u::l,t,hm=>by
  rw[wtL];rcases List.mem_cons.1 hm with rfl|hm
  ·omega
  ·have:=iP hm;omega
theorem sM (sep:Bytes):∀l:List Bytes,(iT sep l).length≤(l.map fun s=>s.length+sep.length).sum
 |[]=>by simp[iT]
 |[w]=>by simp[iT]
 |w::v::r=>by
  have:=sM sep (v::r);show(w ++sep ++iT sep (v::r)).length≤_;simp only[List.length_append,List.map_cons,List.sum_cons]at this⊢;omega
theorem J3 (s:Bytes) (b:Bool):(MO s b).length≤s.length+2:=by cases b<;>simp[MO]
theorem D8 :∀(ns ss:List Bytes),((nJ ns ss).map fun s=>s.length+2).sum≤(ns.map fun n=>n.length+4).sum+(ss.map fun s=>s.length).sum
 |[],ss=>by simp[nJ]
 |n::ns,[]=>by simp[nJ]
 |n::ns,s::ss=>by
  have:=D8 ns ss;simp only[nJ,List.zipWith_cons_cons,List.map_cons,List.sum_cons,List.length_append,List.length_cons,List.length_nil]at this⊢;omega
theorem rU {α:Type} {f g:α→Nat} (h:∀x,f x≤g x):∀l:List α,(l.map f).sum≤(l.map g).sum
 |[]=>by simp
 |x::l=>by
  have:=rU h l;have:=h x;simp only[List.map_cons,List.sum_cons];omega
theorem D6 :∀(l:List Bytes) (i:Nat),(l.getD i []).length≤(l.map fun s=>s.length).sum
 |[],i=>by simp
 |s::l,0=>by simp
 |s::l,i+1=>by
  have:=D6 l i;simp only[List.getD_cons_succ,List.map_cons,List.sum_cons];omega
theorem VO :∀(l:List Bytes) (m:List Bytes),(l.getD 0 []).length+(m.getD 1 []).length≤((l.take 1).map fun s=>s.length).sum+((m.drop 1).map fun s=>s.length).sum
 |l,m=>by
  have h1:=D6 (l.take 1) 0;have h2:=D6 (m.drop 1) 0;have e1:(l.take 1).getD 0 []=l.getD 0 []:=by cases l<;>simp
  have e2:(m.drop 1).getD 0 []=m.getD 1 []:=by cases m<;>simp
  rw[e1]at h1;rw[e2]at h2;omega
mutual
theorem wu :∀(t:TA) (lv:Nat),(prT t lv).length≤wtT t
 |.mk k nm ns l,lv=>by
  have h0:=tV l 0;have h1:=tV l 1;have h2:=tV l 2;rw[prT,wtT];split
  ·simp;omega
  split
  ·simp;omega
  split
  ·simp;omega
  split
  ·simp;omega
  split
  ·have a1:(iT [44,32] (nJ ns (prL l 0))).length≤((nJ ns (prL l 0)).map fun s=>s.length+2).sum:=sM _ _
   have:=D8 ns (prL l 0);have:=rU (f:=fun s:Bytes=>s.length) (g:=fun s=>s.length+8) (fun s=>by omega) (prL l 0);simp only[List.length_append,List.length_cons,List.length_nil];omega
  split
  ·have a1:=J3 ((prL l 2).getD 0 [] ++[32,45,62,32] ++(prL l 1).getD 1 []) (decide (2≤lv))
   have a2:=VO (prL l 2) (prL l 1);have a3:((prL l 2).take 1).map (fun s=>s.length)=(l.take 1).map fun t=>(prT t 2).length:=by rw[qX,←List.map_take,List.map_map];rfl
   have a4:((prL l 1).drop 1).map (fun s=>s.length)=(l.drop 1).map fun t=>(prT t 1).length:=by rw[qX,←List.map_drop,List.map_map];rfl
   rw[a3,a4]at a2
   have a5:((l.take 1).map fun t=>(prT t 2).length).sum+((l.drop 1).map fun t=>(prT t 1).length).sum≤wtL l:=by
    cases l with
    |nil=>simp
    |cons t l=>
     rw[prL,List.map_cons,List.sum_cons]at h1 h2;rw[wtL]at*;have b1:=wu t 2;have b2:=tV l 1;have b3:=rU (f:=fun s:Bytes=>s.length) (g:=fun s=>s.length+8) (fun s=>by omega) (prL l 1);rw[qX l 1,List.map_map]at b3;rw[qX l 1]at b2;simp only[List.take_succ_cons,List.take_zero,List.drop_succ_cons,List.drop_zero,List.map_cons,List.map_nil,List.sum_cons,List.sum_nil];have b4:(l.map fun t=>(prT t 1).length).sum=(l.map ((fun s:Bytes=>s.length)∘(prT · 1))).sum:=rfl;rw[b4];omega
   simp only[List.length_append,List.length_cons,List.length_nil]at a1;omega
  split
  ·split
   ·simp;omega
   ·have a1:=J3 (iT [32,124,32] (prL l 1)) (decide (1≤lv))
    have a2:=sM [32,124,32] (prL l 1);have a3:=rU (f:=fun s:Bytes=>s.length+([32,124,32]:Bytes).length) (g:=fun s=>s.length+8) (fun s=>by simp) (prL l 1);omega
  ·omega
theorem tV :∀(l:List TA) (lv:Nat),((prL l lv).map fun s=>s.length+8).sum≤wtL l
 |[],lv=>by simp[prL]
 |t::l,lv=>by
  have:=wu t lv;have:=tV l lv;rw[prL,wtL,List.map_cons,List.sum_cons];omega
end
end Go.Ag
/- Package print: typ, walked. -/
namespace Go.Ag
open Go
variable {T : Tab} {L : Lnk}
theorem vD {α:Type} (l:List α) (d:α):(List.range l.length).map (fun i=>l.getD i d)=l:=by
 apply List.ext_getElem
 ·simp
 ·intro i h1 h2;simp[h2]
theorem KR {ns ss:List Bytes} (h:ns.length≤ss.length):(nJ ns ss).length=ns.length:=by simp[nJ];omega
theorem Ya {ns ss:List Bytes} {i:Nat} (h1:i<ns.length) (h2:i<ss.length):(nJ ns ss).getD i []=ns[i] ++[58,32] ++ss[i]:=by
 rw[List.getD_eq_getElem?_getD,nJ,List.getElem?_zipWith,List.getElem?_eq_getElem h1,List.getElem?_eq_getElem h2];rfl
theorem Mf {l:List TA} {i:Nat} (h:i<l.length):(TA.avs l)[i]?=some l[i].av:=by
 induction l generalizing i with
 |nil=>simp at h
 |cons t l ih=>
  cases i with
  |zero=>rw[TA.avs];rfl
  |succ i=>rw[TA.avs,List.getElem?_cons_succ,ih (by simpa using h)];rfl
def NY (T:Tab) (n:Nat):Prop:=∀(t:TA) (lv:Nat),wtT t<n→wtT t≤2^40→wfT t→Pure T.L 230 [t.av,.int .i64 lv] (.str (prT t lv))
theorem PY (F:yw T) (k:Int) (nm:Bytes) (ns:List Bytes) (l:List TA) (ih:NY T (wtT (.mk k nm ns l))) (hw:wtT (.mk k nm ns l)≤2^40) (hf:wfT (.mk k nm ns l)) (i:Nat) (h1:i<ns.length) (h2:i<l.length):
  bX T.L 263 [.int .i64 i,.ptr 0 0] [bf (.mk k nm ns l)] (.str (ns[i] ++[58,32] ++prT l[i] 0)) [bf (.mk k nm ns l)]:=by
 have hmem:l[i]∈l:=List.getElem_mem h2;have hwt:=iP hmem;rw[wtT]at hw;rw[wfT]at hf;have hne:=GQ hf.2.2 hmem;have hc:=ih l[i] 0 (by rw[wtT];omega) (by omega) hne;have hpl:=wu l[i] 0;have hat:=Mf h2;generalize l[i]=u at hc hpl hwt hat;obtain⟨uk,un,us,ul⟩:=u
 have hnl:ns[i].length≤2^41:=by
  have:∀(m:List Bytes) (x:Bytes),x∈m→x.length≤(m.map fun n=>n.length+4).sum:=fun m=>by
   induction m with
   |nil=>intro x hx;cases hx
   |cons y m ihm=>
    intro x hx;rw[List.map_cons,List.sum_cons];rcases List.mem_cons.1 hx with rfl|hx
    ·omega
    ·have:=ihm x hx;omega
  have:=this ns ns[i] (List.getElem_mem h1);omega
 refine bX.of 0 rfl (.str _) (eX.at ⟨aI (Nat.zero_le _) (cK _),trivial⟩) (aC.mono (Q:=fun r H'=>∃J,r=.ret (.str (ns[i] ++[58,32] ++prT (.mk uk un us ul) 0))∧H'=bf (.mk k nm ns l)::J) ?_ fun r H' ⟨J,e1,e2⟩=>⟨_,[bf (.mk k nm ns l)],J,e1,Weak.refl _,e2,rfl,fun i x y h1 h2=>by rw[h1]at h2;cases h2;exact bJ.refl x⟩);refine aG F.Xi (by simp[Uw]) ?_;conv=>whnf
 refine rW h1 ?_;conv=>whnf
 refine iO (rG (by simp;omega)) ?_;conv=>whnf
 refine step_elem (Int.natCast_nonneg _) hat rfl ?_;conv=>whnf
 refine hc.to ?_;conv=>whnf
 refine⟨⟨rfl,rfl,trivial⟩,?_⟩;conv=>whnf
 refine iO (rG (by simp;omega)) ?_;conv=>whnf
 exact⟨_,rfl,rfl⟩
theorem PX (F:yw T) (k:Int) (nm:Bytes) (ns:List Bytes) (l:List TA) (ih:NY T (wtT (.mk k nm ns l))) (hw:wtT (.mk k nm ns l)≤2^40) (hf:wfT (.mk k nm ns l)) (i:Nat) (h2:i<l.length):
  bX T.L 265 [.int .i64 i,.ptr 0 0] [bf (.mk k nm ns l)] (.str (prT l[i] 1)) [bf (.mk k nm ns l)]:=by
 have hmem:l[i]∈l:=List.getElem_mem h2;have hwt:=iP hmem;rw[wtT]at hw;rw[wfT]at hf;have hne:=GQ hf.2.2 hmem;have hc:=ih l[i] 1 (by rw[wtT];omega) (by omega) hne;have hat:=Mf h2;generalize l[i]=u at hc hwt hat;obtain⟨uk,un,us,ul⟩:=u;refine bX.of 0 rfl (.str _) (eX.at ⟨aI (Nat.zero_le _) (cK _),trivial⟩) (aC.mono (Q:=fun r H'=>∃J,r=.ret (.str (prT (.mk uk un us ul) 1))∧H'=bf (.mk k nm ns l)::J) ?_ fun r H' ⟨J,e1,e2⟩=>⟨_,[bf (.mk k nm ns l)],J,e1,Weak.refl _,e2,rfl,fun i x y h1 h2=>by rw[h1]at h2;cases h2;exact bJ.refl x⟩);refine aG F.Xg (by simp[Uu]) ?_;conv=>whnf
 refine step_elem (Int.natCast_nonneg _) hat rfl ?_;conv=>whnf
 refine hc.to ?_;conv=>whnf
 exact⟨_,rfl,rfl⟩
theorem Jh (F:yw T):∀n:Nat,NY T n
 |0=>fun t lv h=>by omega
 |n+1=>fun t lv hlt hw hf=>by
  have ih:=Jh F n;obtain⟨k,nm,ns,l⟩:=t;have ih':NY T (wtT (.mk k nm ns l)):=fun u lv hu h1 h2=>ih u lv (by omega) h1 h2
  clear ih;have hpl:=wu (.mk k nm ns l) lv;refine Pure.run (gq.at ⟨aQ _ _,.int _ _,trivial⟩) (.str _) (aG F.Xu (by simp[UJ]) ?_);have Ox:∀x∈[bf (.mk k nm ns l)],bI 1 x:=eX.at ⟨aI (Nat.zero_le _) (cK _),trivial⟩;have hwf:=hf;rw[wfT]at hwf;have hwt:=hw;rw[wtT]at hwt;obtain⟨R,hR⟩:∃R,prT (.mk k nm ns l) lv=R:=⟨_,rfl⟩;rw[hR]at hpl⊢;rw[prT]at hR;conv=>whnf
  cases h1:(k==1)
  ·rw[if_neg (by simpa using h1)]at hR
   conv=>whnf
   cases h2:(k==2)
   ·rw[if_neg (by simpa using h2)]at hR
    conv=>whnf
    cases h3:(k==3)
    ·rw[if_neg (by simpa using h3)]at hR
     conv=>whnf
     cases h4:(k==4)
     ·rw[if_neg (by simpa using h4)]at hR
      conv=>whnf
      cases h5:(k==5)
      ·rw[if_neg (by simpa using h5)]at hR
       conv=>whnf
       cases h6:(k==6)
       ·rw[if_neg (by simpa using h6)]at hR
        conv=>whnf
        cases h7:(k==7)
        ·rw[if_neg (by simpa using h7)]at hR
         subst hR;conv=>whnf
         exact aH (Weak.refl _)
        ·rw[if_pos (by simpa using h7)]at hR
         conv=>whnf
         rw[bY];cases h8:((l.length:Int)==0)
         ·rw[if_neg (by simpa using h8)]at hR
          conv=>whnf
          rw[bY];have hjl:=sM [32,124,32] (prL l 1);have hsum:=rU (f:=fun s:Bytes=>s.length+([32,124,32]:Bytes).length) (g:=fun s=>s.length+8) (fun s=>by simp) (prL l 1);have hpll:=tV l 1
          have hmap:(List.range l.length).map (fun i=>(prL l 1).getD i [])=prL l 1:=by
           have:=vD (prL l 1) [];rwa[show(prL l 1).length=l.length from by rw[qX];simp]at this
          have hlen:l.length≤wtL l:=by
           have:∀m:List TA,m.length≤wtL m:=fun m=>by
            induction m with
            |nil=>simp
            |cons t m ihm=>rw[wtL,List.length_cons];omega
           exact this l
          have hls:=FX F (bf (.mk k nm ns l)) (cK _) 265 l.length [32,124,32] (fun i=>(prL l 1).getD i []) (by omega) (by rw[hmap];omega) fun i hi=>by
           have:=PX F k nm ns l ih' hw hf i hi;rwa[show(prL l 1).getD i []=prT l[i] 1 from by rw[qX];simp[hi]]
          rw[hmap]at hls;refine hls.to rfl (gq.at ⟨.int _ _,.str _,.fn _ _ _ fK (gq.at ⟨.ptr _ _ (by decide:0<1),trivial⟩),trivial⟩) Ox (.str _) Ox [] rfl ?_;conv=>whnf
          refine(CZ F _ (by omega) _).to ?_;conv=>whnf
          have hge:decide (((lv:Nat):Int)≥1)=decide (1≤lv):=by
           by_cases h:1≤lv<;>simp[h]<;>omega
          rw[hge];subst hR;exact aH (Weak.refl _)
         ·rw[if_pos (by simpa using h8)]at hR
          subst hR;conv=>whnf
          exact aH (Weak.refl _)
       ·rw[if_pos (by simpa using h6)]at hR
        obtain⟨t0,t1,l',rfl⟩:∃t0 t1 l',l=t0::t1::l':=by
         have:=hwf.2.1 (by simpa using h6)
         match l,this with
         |t0::t1::l',_=>exact⟨t0,t1,l',rfl⟩
        rw[wtL,wtL]at hwt;have hw0:wtT t0<wtT (.mk k nm ns (t0::t1::l')):=by rw[wtT,wtL];omega
        have hw1:wtT t1<wtT (.mk k nm ns (t0::t1::l')):=by rw[wtT,wtL,wtL];omega
        have Zh:=hwf.2.2;rw[wfL,wfL]at Zh;have c0:=ih' t0 2 hw0 (by omega) Zh.1;have c1:=ih' t1 1 hw1 (by omega) Zh.2.1;have n0:=wu t0 2;have n1:=wu t1 1;rw[show(prL (t0::t1::l') 2).getD 0 []=prT t0 2 from by rw[prL];rfl,show(prL (t0::t1::l') 1).getD 1 []=prT t1 1 from by rw[prL,prL];rfl]at hR;generalize prT t0 2=s0 at c0 n0 hR;generalize prT t1 1=s1 at c1 n1 hR;obtain⟨k0,nm0,ns0,l0⟩:=t0;obtain⟨k1,nm1,ns1,l1⟩:=t1;conv=>whnf
        refine⟨Int.le_refl _,rfl,?_⟩;conv=>whnf
        refine c0.soft ?_;conv=>whnf
        refine iO (rG (by simp;omega)) ?_;conv=>whnf
        refine⟨by decide,rfl,?_⟩;conv=>whnf
        refine c1.soft ?_;conv=>whnf
        refine iO (rG (by simp;omega)) ?_;conv=>whnf
        refine(CZ F _ (by simp;omega) _).soft ?_;conv=>whnf
        have hge:decide (((lv:Nat):Int)≥2)=decide (2≤lv):=by
         by_cases h:2≤lv<;>simp[h]<;>omega
        rw[hge];subst hR;exact aH (Weak.refl _)
      ·rw[if_pos (by simpa using h5)]at hR
       have hk5:k=5:=by simpa using h5
       have hnl:=hwf.1 hk5;conv=>whnf
       rw[fQ];have hpl0:(prL l 0).length=l.length:=by rw[qX];simp
       have hfl:(nJ ns (prL l 0)).length=ns.length:=KR (by omega);have hjl:(iT [44,32] (nJ ns (prL l 0))).length≤((nJ ns (prL l 0)).map fun s=>s.length+2).sum:=sM _ _;have hfs:=D8 ns (prL l 0);have hsum:=rU (f:=fun s:Bytes=>s.length) (g:=fun s=>s.length+8) (fun s=>by omega) (prL l 0);have hpll:=tV l 0
       have hmap:(List.range ns.length).map (fun i=>(nJ ns (prL l 0)).getD i [])=nJ ns (prL l 0):=by
        have:=vD (nJ ns (prL l 0)) [];rwa[hfl]at this
       have hlen:ns.length≤(ns.map fun n=>n.length+4).sum:=by
        have:∀m:List Bytes,m.length≤(m.map fun n=>n.length+4).sum:=fun m=>by
         induction m with
         |nil=>simp
         |cons t m ihm=>rw[List.map_cons,List.sum_cons,List.length_cons];omega
        exact this ns
       have hls:=FX F (bf (.mk k nm ns l)) (cK _) 263 ns.length [44,32] (fun i=>(nJ ns (prL l 0)).getD i []) (by omega) (by rw[hmap];omega) fun i hi=>by
        have hi2:i<l.length:=by omega
        have:=PY F k nm ns l ih' hw hf i hi hi2;rwa[show(nJ ns (prL l 0)).getD i []=ns[i] ++[58,32] ++prT l[i] 0 from by rw[Ya hi (by omega)];simp[qX]]
       rw[hmap]at hls;refine hls.to rfl (gq.at ⟨.int _ _,.str _,.fn _ _ _ fK (gq.at ⟨.ptr _ _ (by decide:0<1),trivial⟩),trivial⟩) Ox (.str _) Ox [] rfl ?_;conv=>whnf
       refine iO (rG (by simp;omega)) ?_;conv=>whnf
       refine iO (rG (by simp;omega)) ?_;subst hR;conv=>whnf
       exact aH (Weak.refl _)
     ·rw[if_pos (by simpa using h4)]at hR
      subst hR;conv=>whnf
      exact aH (Weak.refl _)
    ·rw[if_pos (by simpa using h3)]at hR
     subst hR;conv=>whnf
     exact aH (Weak.refl _)
   ·rw[if_pos (by simpa using h2)]at hR
    subst hR;conv=>whnf
    exact aH (Weak.refl _)
  ·rw[if_pos (by simpa using h1)]at hR
   subst hR;conv=>whnf
   exact aH (Weak.refl _)
theorem LH (F:yw T) (t:TA) (hw:wtT t≤2^40) (hf:wfT t):Pure T.L 191 [t.av] (.str (prT t 0)):=by
 have h:=Jh F (wtT t+1) t 0 (Nat.lt_succ_self _) hw hf;obtain⟨k,nm,ns,l⟩:=t;refine Pure.run (dD (aQ _ _)) (.str _) (aG F.XI (by simp[U2]) ?_);conv=>whnf
 refine h.to ?_;conv=>whnf
 exact aH (Weak.refl _)
end Go.Ag
/- Package types: flat, walked by whoever takes its parts. -/
namespace Go.Ag
open Go
variable {T : Tab} {L : Lnk}
def TA.kind :TA→Int|.mk k _ _ _=>k
def fq (t:TA):List TA:=if t.kind=7 then t.l else[t]
def aR (l:List TA):List TA:=l.flatMap fq
theorem Q9 (QT:T.has 251 Pd) (xs:List au) (tk:Tok) (H:Heap):
  aC T.L 251 [.lst xs tk] H fun r H'=>r=.ret (.fn (.func 294) [] [.ptr H.length 0])∧H'=H ++[.cells [.lst xs tk] 173]:=by
 refine aG QT (by simp[Pd]) ?_;conv=>whnf
 exact⟨rfl,rfl⟩
theorem mP {l:List TA} {i:Nat} (h:i<l.length):(TA.avs l)[((i:Nat):Int).toNat]?=some l[i].av:=Mf h
theorem Ni (l:List TA) (j:Nat) (h:j<l.length):aR (l.take (j+1))=aR (l.take j) ++fq l[j]:=by
 rw[List.take_succ_eq_append_getElem h];simp only[aR,List.flatMap_append,List.flatMap_cons,List.flatMap_nil,List.append_nil]
theorem TQ (l:List TA) (j q:Nat) (h:j<l.length) (hq:q<(fq l[j]).length):(aR l)[(aR (l.take j)).length+q]?=some (fq l[j])[q]:=by
 have h1:aR l=aR (l.take j) ++(fq l[j] ++aR (l.drop (j+1))):=by
  conv=>lhs;rw[←List.take_append_drop j l,List.drop_eq_getElem_cons h]
  simp only[aR,List.flatMap_append,List.flatMap_cons]
 rw[h1,List.getElem?_append_right (Nat.le_add_right _ _),Nat.add_sub_cancel_left,List.getElem?_append_left hq,List.getElem?_eq_getElem hq]
theorem Nj (QK:T.has 294 OY) (l:List TA) (hl:l.length≤2^40) (hpl:∀t∈l,t.l.length≤2^40) (p:Nat→Nat→aU) (hlow:∀i k,k<4→bI 6 (p i k)) (r:rQ) (hr:∀i,Low 6 (r.e i)) (Bf:Heap) (hBf:Bf.length=6) (hBl:∀o∈Bf,bI 6 o) (stop:Nat)
  (B:Nat→Heap) (hB:∀i,B i=[p i 0,p i 1,p i 2,p i 3,.cells [.lst (TA.avs l) .none] 173,.loop r .ready])
  (hy:∀i t,(aR l)[i]?=some t→i<stop→l8 T.L 5 [t.av] (B i) (.ret (.bool true)) (B (i+1)))
  (hs:∀t,(aR l)[stop]?=some t→l8 T.L 5 [t.av] (B stop) (.ret (.bool false)) Bf):
  aC T.L 294 [.yld 5,.ptr 4 0] (B 0) fun r' H'=>r'=.ret (.tup [])∧∃J,H'=(if stop<(aR l).length then Bf else B (aR l).length) ++J:=by
 have DY:∀i,∀o∈B i,bI 6 o:=fun i=>by
  rw[hB];exact eX.at ⟨hlow i 0 (by decide),hlow i 1 (by decide),hlow i 2 (by decide),hlow i 3 (by decide),dH ⟨.lst _ _ trivial (aY 6 l),trivial⟩,hr,trivial⟩
 have gT:∀i,(B i).length=6:=fun i=>by rw[hB];rfl
 obtain⟨fin,hfin⟩:∃fin,(if stop<(aR l).length then Bf else B (aR l).length)=fin:=⟨_,rfl⟩;rw[hfin];refine aG QK (by simp[OY]) ?_;rw[hB 0];conv=>whnf
 intro I hI hG
 have key:∀(d j:Nat) (e:Env),l.length-j=d→j≤l.length→(aR (l.take j)).length≤stop→I (gB e [(0,.yld 5),(8,.lst (TA.avs l) .none),(9,.int .i64 l.length),(10,.int .i64 j)]) (B (aR (l.take j)).length):=by
  intro d
  induction d with
  |zero=>
   intro j e hd hj hst;have hjl:j=l.length:=by omega
   rw[hjl,List.take_length]at hst⊢;rw[if_neg (by omega)]at hfin;rw[hfin];apply hI;conv=>whnf
   rw[bU (Nat.le_refl _)];conv=>whnf
   exact⟨rfl,[],(List.append_nil _).symm⟩
  |succ d ih=>
   intro j e hd hj hst;have hlt:j<l.length:=by omega
   have hnext:=fun e h=>ih (j+1) e (by omega) hlt h
   rw[Ni l j hlt,List.length_append]at hnext;have hat:=TQ l j;obtain⟨i0,hi0⟩:∃i0,(aR (l.take j)).length=i0:=⟨_,rfl⟩;rw[hi0]at hst hnext hat⊢;have hpj:=hpl _ (List.getElem_mem hlt);have hget:=mP hlt;have hpt:∀q (h:q<(fq l[j]).length),(aR l)[i0+q]?=some (fq l[j])[q]:=fun q h=>hat q hlt h
   clear hat;generalize l[j]=u at hnext hpj hget hpt;obtain⟨uk,un,us,ul⟩:=u;apply hI;rw[hB];conv=>whnf
   rw[dz hlt];conv=>whnf
   refine step_elem (Int.natCast_nonneg _) hget rfl ?_;conv=>whnf
   obtain⟨P,hP⟩:∃P,fq (.mk uk un us ul)=P:=⟨_,rfl⟩;rw[hP]at hnext;have hpt:∀q (h:q<P.length),(aR l)[i0+q]?=some P[q]:=fun q h=>by subst hP;exact hpt q h
   have hPl:P.length≤2^40:=by
    rw[←hP];unfold fq;split
    ·exact hpj
    ·simp
   cases hk:(uk==7)
   case' false=>
    have hav:TA.avs P=[.agg [.int .i64 uk,.str un,.lst (aO us) .none,.lst (TA.avs ul) .none]]:=by
     rw[←hP,fq,if_neg (by simpa[TA.kind]using hk)];rfl
   case' true=>
    have hav:TA.avs P=TA.avs ul:=by
     rw[←hP,fq,if_pos (by simpa[TA.kind]using hk)];rfl
   all_goals
    clear hP;conv=>whnf
    intro I2 hI2 hG2
    have key2:∀(d2 q:Nat) (e2:Env),P.length-q=d2→q≤P.length→i0+q≤stop→I2 (gB e2 [(0,.yld 5),(8,.lst (TA.avs l) .none),(9,.int .i64 l.length),(10,.int .i64 j),(21,.lst (TA.avs P) .none),(22,.int .i64 P.length),(23,.int .i64 q)]) (B (i0+q) ++[bf (.mk uk un us ul)]):=by
     intro d2
     induction d2 with
     |zero=>
      intro q e2 hd2 hq hqs;have hqe:q=P.length:=by omega
      subst hqe;apply hI2;rw[hB];conv=>whnf
      rw[bU (Nat.le_refl _)];conv=>whnf
      refine hG.keep [(0,.yld 5),(8,.lst (TA.avs l) .none),(9,.int .i64 l.length),(10,.int .i64 (j+1:Nat))] (B (i0+P.length)) (by rw[gT];exact Nat.le_refl _) (by rw[hB];rfl) ⟨rfl,rfl,rfl,add1 (by omega),trivial⟩
       (by rw[gT];exact⟨.yld _ (by decide),.lst _ _ trivial (aY 6 l),.int _ _,.int _ _,trivial⟩) (by rw[gT,hB];exact⟨hlow _ 0 (by decide),hlow _ 1 (by decide),hlow _ 2 (by decide),hlow _ 3 (by decide),dH ⟨.lst _ _ trivial (aY 6 l),trivial⟩,hr,trivial⟩) (hnext _ hqs)
     |succ d2 ih2=>
      intro q e2 hd2 hq hqs;have hql:q<P.length:=by omega
      have hPq:=hpt q hql;have Tv:=mP hql;have hin:i0+q<(aR l).length:=(List.getElem?_eq_some_iff.1 hPq).1;have hn2:=fun e h=>ih2 (q+1) e (by omega) (by omega) h
      generalize P[q]=v at hPq Tv;have hlv:∀x∈[v.av],Low (B (i0+q)).length x:=dD (aQ _ _);apply hI2;rcases Nat.lt_or_ge (i0+q) stop with hlt2|hge2
      ·have hyy:=hy (i0+q) v hPq hlt2
       obtain⟨vk,vn,vs,vl⟩:=v;rw[hB];conv=>whnf
       rw[dz hql];conv=>whnf
       refine step_elem (Int.natCast_nonneg _) Tv rfl ?_;conv=>whnf
       refine hyy.to (by rw[gT];decide) (by rw[gT,gT]) hlv (by rw[gT];exact DY _) (.bool _) (by rw[gT];exact DY _) _ (by rw[hB];rfl) ?_;conv=>whnf
       have:i0+q+1=i0+(q+1):=by omega
       rw[this];rw[hB]
       refine hG2.keep [(0,.yld 5),(8,.lst (TA.avs l) .none),(9,.int .i64 l.length),(10,.int .i64 j),(21,.lst (TA.avs P) .none),(22,.int .i64 P.length),(23,.int .i64 (q+1:Nat))] (B (i0+(q+1)) ++[bf (.mk uk un us ul)]) (by rw[List.length_append,gT];exact Nat.le_refl _) (by rw[hB];rfl) ⟨rfl,rfl,rfl,rfl,rfl,rfl,add1 (by omega),trivial⟩
        (by rw[List.length_append,gT];exact⟨.yld _ (by decide:5<7),.lst _ _ trivial (aY _ l),.int _ _,.int _ _,.lst _ _ trivial (aY _ P),.int _ _,.int _ _,trivial⟩)
        (by rw[List.length_append,gT,hB];exact⟨aI (by decide:6≤7) (hlow _ 0 (by decide)),aI (by decide:6≤7) (hlow _ 1 (by decide)),aI (by decide:6≤7) (hlow _ 2 (by decide)),aI (by decide:6≤7) (hlow _ 3 (by decide)),dH ⟨.lst _ _ trivial (aY 7 l),trivial⟩,aI (by decide:6≤7) (o:=.loop r .ready) hr,aI (Nat.zero_le _) (cK _),trivial⟩) (hn2 _ (by omega))
      ·have hqe:i0+q=stop:=by omega
       rw[hqe]at hPq hin;have hyy:=hs v hPq;rw[if_pos hin]at hfin;obtain⟨vk,vn,vs,vl⟩:=v;rw[hqe,hB];conv=>whnf
       rw[dz hql];conv=>whnf
       refine step_elem (Int.natCast_nonneg _) Tv rfl ?_;conv=>whnf
       refine hyy.to (by rw[gT];decide) (by rw[gT,hBf]) (by rw[hqe]at hlv;exact hlv) (by rw[gT];exact DY _) (.bool _) (by rw[gT];exact hBl) _ (by rw[hB];rfl) ?_;conv=>whnf
       rw[hfin];exact⟨rfl,_,rfl⟩
    have h2:=key2 P.length 0 (fun _=>.undef) rfl (Nat.zero_le _) hst;have hPlen:(P.length:Int)=((TA.avs P).length:Nat):=by rw[bY]
    rw[hPlen,hav]at h2
    refine hG2.Ka [(0,.yld 5),(8,.lst (TA.avs l) .none),(9,.int .i64 l.length),(10,.int .i64 j),(21,_),(22,_),(23,.int .i64 (0:Nat))] (B (i0+0) ++[bf (.mk uk un us ul)]) (B (i0+0) ++[bf (.mk uk un us ul)]) [] (by rw[hB];rfl) (by rw[List.length_append,gT];exact Nat.le_refl _) (nK.refl _)
     (by rw[List.length_append,gT];exact⟨⟨Weak.refl _,.yld _ (by decide:5<7)⟩,⟨Weak.refl _,.lst _ _ trivial (aY _ l)⟩,⟨Weak.refl _,.int _ _⟩,⟨Weak.refl _,.int _ _⟩,⟨Weak.tok _ _,by rw[←hav];exact .lst _ _ trivial (aY _ P)⟩,⟨Weak.refl _,.int _ _⟩,⟨Weak.refl _,.int _ _⟩,trivial⟩)
     (by rw[List.length_append,gT,hB];exact⟨aI (by decide:6≤7) (hlow _ 0 (by decide)),aI (by decide:6≤7) (hlow _ 1 (by decide)),aI (by decide:6≤7) (hlow _ 2 (by decide)),aI (by decide:6≤7) (hlow _ 3 (by decide)),dH ⟨.lst _ _ trivial (aY 7 l),trivial⟩,aI (by decide:6≤7) (o:=.loop r .ready) hr,aI (Nat.zero_le _) (cK _),trivial⟩)
     h2
 have h0:=key l.length 0;rw[hB]at h0;exact inv_of [(0,.yld 5),(8,.lst (TA.avs l) .none),(9,.int .i64 l.length),(10,.int .i64 0)] ⟨rfl,rfl,by show au.int .i64 ((TA.avs l).length:Nat)=_;rw[bY],rfl,trivial⟩ (h0 _ rfl (Nat.zero_le _) (Nat.zero_le _))
end Go.Ag
/- Package types: the library's CompactFunc of keyed types. -/
namespace Go.Ag
open Go
variable {T : Tab} {L : Lnk}
def Kn :TA×Bytes→List au
 |(.mk k nm ns l,s)=>[.int .i64 k,.str nm,.lst (aO ns) .none,.lst (TA.avs l) .none,.str s]
def kv (p:TA×Bytes):au:=.agg (Kn p)
def kvs (l:List (TA×Bytes)):List au:=l.map kv
theorem F3 (p:TA×Bytes):(Kn p).length=5:=by obtain⟨⟨k,nm,ns,l⟩,s⟩:=p;rfl
theorem vH (l:List (TA×Bytes)):∀x∈kvs l,x.cells.length=5:=fun x hx=>by
 obtain⟨p,_,rfl⟩:=List.mem_map.1 hx;exact F3 p
theorem jJ (l:List (TA×Bytes)):(kvs l).length=l.length:=by simp[kvs]
theorem Ig (n:Nat) (p:TA×Bytes):Low n (kv p):=by
 obtain⟨⟨k,nm,ns,l⟩,s⟩:=p;exact .agg _ (gq.at ⟨.int _ _,.str _,dQ _ _ _ trivial,.lst _ _ trivial (aY n l),.str _,trivial⟩)
theorem kS (n:Nat) (l:List (TA×Bytes)):∀x∈kvs l,Low n x:=fun x hx=>by
 obtain⟨p,_,rfl⟩:=List.mem_map.1 hx;exact Ig n p
theorem ok_kv (p:TA×Bytes):jH 5 (kv p):=by obtain⟨⟨k,nm,ns,l⟩,s⟩:=p;exact⟨rfl,rfl⟩
theorem Fq (l:List (TA×Bytes)):dB 5 (kvs l):=fun x hx=>by
 obtain⟨p,_,rfl⟩:=List.mem_map.1 hx;exact ok_kv p
theorem wF {H:Heap} {id n t i:Nat} {l:List au} {x:au} (h:H[id]?=some (.arr n l t)) (h5:∀x∈l,x.cells.length=5) (hi:l[i]?=some x):loadAt H (some 5) (.jv id n (i*5))=some (.agg x.cells):=by
 obtain⟨hlt,rfl⟩:=List.getElem?_eq_some_iff.1 hi;have hl:=iw h5;simp only[loadAt,fI,h];rw[if_pos ⟨trivial,by rw[hl];omega⟩,sQ i h5,List.drop_eq_getElem_cons hlt,gN,List.take_append,h5 _ (List.getElem_mem hlt)];have h6:=h5 _ (List.getElem_mem hlt);rw[Nat.sub_self,List.take_zero,List.append_nil,List.take_of_length_le (by omega)];rfl
theorem R5 {H:Heap} {id n t i:Nat} {l:List au} {x:au} (h:H[id]?=some (.arr n l t)) (h5:∀x∈l,x.cells.length=5) (hx:x.cells.length=5) (hi:i<l.length):storeAt H 5 (.jv id n (i*5)) x=some (H.set id (.arr n (l.take i ++[x] ++l.drop (i+1)) t)):=by
 simp only[storeAt,h];rw[if_pos ⟨trivial,hx,by rw[Nat.mul_div_cancel _ (by decide:0<5)],by rw[Nat.mul_div_cancel _ (by decide:0<5)];exact hi,by rw[List.all_eq_true];exact fun y hy=>by simpa using h5 y hy⟩,Nat.mul_div_cancel _ (by decide:0<5)]
def kM {α:Type}:Bytes→List (α×Bytes)→List (α×Bytes)
 |_,[]=>[]
 |p,y::l=>if(y.2==p)=true then kM y.2 l else y::kM y.2 l
def fZ {α:Type}:List (α×Bytes)→List (α×Bytes)
 |[]=>[]
 |x::l=>x::kM x.2 l
theorem El {α:Type}:∀(l:List (α×Bytes)) (p:Bytes) (y:α×Bytes),kM p (l ++[y])=kM p l ++(if(y.2==(l.map (·.2)).getLastD p)=true then[]else[y])
 |[],p,y=>by
  rw[List.nil_append,kM,kM];show _=[] ++(if(y.2==p)=true then[]else[y]);split<;>simp[kM]
 |x::l,p,y=>by
  rw[List.cons_append,kM,El l x.2 y,kM];have:((x::l).map (·.2)).getLastD p=(l.map (·.2)).getLastD x.2:=by rw[List.map_cons,List.getLastD_cons]
  rw[this];split
  ·rfl
  ·rw[List.cons_append]
theorem wM {α:Type} (xs:List (α×Bytes)) (i:Nat) (h1:1≤i) (hi:i<xs.length):fZ (xs.take (i+1))=fZ (xs.take i) ++(if(xs[i].2==(xs[i-1]'(by omega)).2)=true then[]else[xs[i]]):=by
 rw[List.take_succ_eq_append_getElem hi]
 cases xs with
 |nil=>simp at hi
 |cons x l=>
  obtain⟨m,rfl⟩:∃m,i=m+1:=⟨i-1,by omega⟩;rw[List.take_succ_cons,List.cons_append,fZ,fZ,El,List.cons_append];have hm:m<l.length:=by simpa using hi
  have hlast:((l.take m).map (·.2)).getLastD x.2=((x::l)[m+1-1]'(by simp;omega)).2:=by
   cases m with
   |zero=>rfl
   |succ m=>
    have hm':m<l.length:=by omega
    rw[List.take_succ_eq_append_getElem hm',List.map_append,List.map_cons,List.map_nil,List.getLastD_concat];simp
  rw[hlast]
structure zJ (T:Tab):Prop where
 TD:T.has 255 Pb
 Iz:T.has 256 Lj
theorem Ua (Iz:T.has 256 Lj) (a b:TA×Bytes):Pure T.L 256 [kv a,kv b] (.bool (a.2==b.2)):=by
 refine Pure.run (gq.at ⟨Ig _ _,Ig _ _,trivial⟩) (.bool _) (aG Iz (by simp[Lj]) ?_);obtain⟨⟨ak,an,abJ,al⟩,sa⟩:=a;obtain⟨⟨bk,bn,bs,bl⟩,sb⟩:=b;conv=>whnf
 exact aH (Weak.refl _)
end Go.Ag
/- Package types: CompactFunc, walked. -/
namespace Go.Ag
open Go
variable {T : Tab} {L : Lnk}
structure Vu (L:Lnk):Prop where
 clone:∀ns:List Bytes,ns.length≤2^40→Pure L 208 [.lst (aO ns) .none] (.lst (aO ns) .none)
 sort:∀(xs:List (TA×Bytes)) (n id t:Nat) (H:Heap),H[id]?=some (.arr n (kvs xs) t)→n=xs.length→xs≠[]→n≤2^40→
  aC L 252 [.vec id n 5 0 n,.fn (.func 253) [] []] H fun r H'=>r=.ret (.tup [])∧∃ys:List (TA×Bytes),ys.Perm xs∧ys.Pairwise (fun a b=>a.2≤b.2)∧H'=H.set id (.arr n (kvs ys) t)
 CU:∀H:Heap,aC L 252 [.lst [] .nil,.fn (.func 253) [] []] H fun r H'=>r=.ret (.tup [])∧H'=H
 compact:∀(xs:List (TA×Bytes)) (n id t:Nat) (H:Heap),H[id]?=some (.arr n (kvs xs) t)→n=xs.length→xs≠[]→n≤2^40→
  aC L 255 [.vec id n 5 0 n,.fn (.func 256) [] []] H fun r H'=>r=.ret (.vec id n 5 0 (fZ xs).length)∧∃rest:List au,(∀x∈rest,Low 0 x∧x.cells.length=5)∧(fZ xs).length+rest.length=n∧H'=H.set id (.arr n (kvs (fZ xs) ++rest) t)
 La:∀H:Heap,aC L 255 [.lst [] .nil,.fn (.func 256) [] []] H fun r H'=>r=.ret (.lst [] .nil)∧H'=H
end Go.Ag
/- Package types: union. -/
namespace Go.Ag
open Go
variable {T : Tab} {L : Lnk}
def d9 (l:List TA):List (TA×Bytes):=l.map fun t=>(t,prT t 0)
def l9 (xs:List (TA×Bytes)):List (TA×Bytes):=xs.mergeSort fun a b=>decide (a.2≤b.2)
theorem lX (xs:List (TA×Bytes)):(l9 xs).Perm xs:=List.mergeSort_perm xs _
theorem tJ (xs:List (TA×Bytes)):(l9 xs).Pairwise fun a b=>a.2≤b.2:=
 (List.pairwise_mergeSort (le:=fun a b:TA×Bytes=>decide (a.2≤b.2)) (fun a b c h1 h2=>by simp at*;exact List.le_trans h1 h2) (fun a b=>by simp;exact List.le_total a.2 b.2) xs).imp (by simp)
theorem yH {xs ys:List (TA×Bytes)} (hp:ys.Perm xs) (hs:ys.Pairwise fun a b=>a.2≤b.2) (hi:∀a∈xs,∀b∈xs,a.2=b.2→a=b):ys=l9 xs:=
 List.Perm.eq_of_pairwise (le:=fun a b:TA×Bytes=>a.2≤b.2) (fun a b ha hb h1 h2=>hi a (hp.mem_iff.1 ha) b ((lX xs).mem_iff.1 hb) (List.le_antisymm h1 h2)) hs (tJ xs) (hp.trans (lX xs).symm)
def mO (l:List TA):TA:=match(aR l).find? (fun t=>t.kind==4)with
 |some t=>t
 |none=>match fZ (l9 (d9 (aR l)))with
  |[p]=>p.1
  |ps=>.mk 7 [] [] (ps.map (·.1))
structure AA (T:Tab):Prop extends yw T where
 QT:T.has 251 Pd
 QK:T.has 294 OY
 Xz:T.has 224 UO
 Zu:T.has 253 YI
 Iz:T.has 256 Lj
 XM:T.has 186 U6
 XZ:T.has 150 Vi
 XY:T.has 151 Vh
 P5:Vu T.L
structure I6 (l:List TA):Prop where
 len:l.length≤2^30
 parts:∀t∈l,t.l.length≤2^30
 all:(aR l).length≤2^30
 wt:∀t∈aR l,wtT t≤2^40
 wf:∀t∈aR l,wfT t
 inj:∀a∈aR l,∀b∈aR l,prT a 0=prT b 0→a=b
def uB (l:List TA) (r:rQ) (i:Nat):Nat→aU
 |0=>EI (kvs (d9 ((aR l).take i))) 306
 |1=>.dead
 |2=>rR
 |3=>.cells [Cy (kvs (d9 ((aR l).take i))) 5 0] 303
 |_=>.dead
theorem SN {H:Heap} {id n t i:Nat} {l:List au} {x:au} (h:H[id]?=some (.arr n l t)) (h5:∀x∈l,x.cells.length=5) (hi:l[i]?=some x):loadAt H (some 4) (.jv id n (i*5))=some (.agg (x.cells.take 4)):=by
 obtain⟨hlt,rfl⟩:=List.getElem?_eq_some_iff.1 hi;have hl:=iw h5;have h6:=h5 _ (List.getElem_mem hlt);simp only[loadAt,fI,h];rw[if_pos ⟨trivial,by rw[hl];omega⟩,sQ i h5,List.drop_eq_getElem_cons hlt,gN,List.take_append,h6];rw[show 4-5=0 from rfl,List.take_zero,List.append_nil];rfl
theorem L9 (F:AA T) (l:List TA) (h:I6 l):Pure T.L 224 [.lst (TA.avs l) .none] (mO l).av:=by
 refine Pure.Ms 2 (dD (.lst _ _ trivial (aY 0 l))) (aQ _ _) (aG F.Xz (by simp[UO]) ?_);conv=>whnf
 refine(Q9 F.QT (TA.avs l) .none _).to1 ?_;conv=>whnf
 intro r hr hyp
 have hlr:∀i,Low 6 (r.e i):=fun i=>by
  rw[hr];unfold bg;simp only[upd];split
  ·exact .fn _ _ _ fK (dD (.ptr _ _ (by decide:4<6)))
  split
  ·exact .lst _ _ trivial (aY 6 l)
  split
  ·exact .ptr _ _ (by decide:3<6)
  split
  ·exact .ptr _ _ (by decide:2<6)
  ·match i with
   |0=>exact .lst _ _ trivial (aY 6 l)
   |i+1=>exact .undef
 obtain⟨B,hB⟩:∃B:Nat→Heap,B=fun i=>[uB l r i 0,uB l r i 1,uB l r i 2,uB l r i 3,.cells [.lst (TA.avs l) .none] 173,.loop r .ready]:=⟨_,rfl⟩
 have hyes:∀i t,(aR l)[i]?=some t→(t.kind==4)=false→l8 T.L 5 [t.av] (B i) (.ret (.bool true)) (B (i+1)):=fun i t hit hk=>by
  have hmem:=List.mem_of_getElem? hit;have hlt:=(List.getElem?_eq_some_iff.1 hit).1;have hty:=LH F.toyw t (h.wt t hmem) (h.wf t hmem)
  have e1:kvs (d9 ((aR l).take (i+1)))=kvs (d9 ((aR l).take i)) ++[kv (t,prT t 0)]:=by
   rw[List.take_succ_eq_append_getElem hlt,(List.getElem?_eq_some_iff.1 hit).2];simp[kvs,d9]
  have hlen:(kvs (d9 ((aR l).take i))).length=i:=by simp[kvs,d9];omega
  have hall:=h.all;have hsz:=Fq (d9 ((aR l).take i))
  have hB1:B (i+1)=[.arr (kvs (d9 ((aR l).take i)) ++[kv (t,prT t 0)]).length (kvs (d9 ((aR l).take i)) ++[kv (t,prT t 0)]) 306,.dead,rR,.cells [.vec 0 (kvs (d9 ((aR l).take i)) ++[kv (t,prT t 0)]).length 5 0 (kvs (d9 ((aR l).take i)) ++[kv (t,prT t 0)]).length] 303,.cells [.lst (TA.avs l) .none] 173,.loop r .ready]:=by
   have hn:kvs (d9 ((aR l).take i)) ++[kv (t,prT t 0)]≠[]:=by simp
   rw[←yD hn,←yE hn,←e1,hB];rfl
  have hlx:=kS 6 (d9 ((aR l).take i));rw[hB1];rw[hB];refine l8.of rfl (.bool _) (eX.at ⟨fun z hz=>?_,trivial,aI (Nat.zero_le _) jR,dH ⟨.vec _ _ _ _ _ (by decide:0<6),trivial⟩,dH ⟨.lst _ _ trivial (aY 6 l),trivial⟩,hlr,trivial⟩) ((hyp [t.av] [uB l r i 0,uB l r i 1,uB l r i 2,uB l r i 3,.cells [.lst (TA.avs l) .none] 173,.loop r .ready] (fun r' H'=>r'=.ret (.bool true)∧∃J,H'=[.arr (kvs (d9 ((aR l).take i)) ++[kv (t,prT t 0)]).length (kvs (d9 ((aR l).take i)) ++[kv (t,prT t 0)]) 306,.dead,rR,.cells [.vec 0 (kvs (d9 ((aR l).take i)) ++[kv (t,prT t 0)]).length 5 0 (kvs (d9 ((aR l).take i)) ++[kv (t,prT t 0)]).length] 303,.cells [.lst (TA.avs l) .none] 173,.loop r .ready] ++J) rfl rfl ?_).mono fun r' H' ⟨e2,J,e3⟩=>⟨_,J,by rw[e2];exact Weak.refl _,e3,rfl,fun i x y h1 h2=>by rw[h1]at h2;cases h2;exact bJ.refl x⟩)
  ·rcases List.mem_append.1 hz with hz|hz
   ·exact hlx z hz
   ·simp only[List.mem_singleton]at hz;subst hz;exact Ig _ _
  have happ:∀{tk0:Tok} {H:Heap} {K:au→Heap→Prop},H[0]?=some (EI (kvs (d9 ((aR l).take i))) 306)→K (.vec 0 (kvs (d9 ((aR l).take i)) ++[kv (t,prT t 0)]).length 5 0 (kvs (d9 ((aR l).take i)) ++[kv (t,prT t 0)]).length) (H.set 0 (.arr (kvs (d9 ((aR l).take i)) ++[kv (t,prT t 0)]).length (kvs (d9 ((aR l).take i)) ++[kv (t,prT t 0)]) 306))→lH 5 88 306 (Cy (kvs (d9 ((aR l).take i))) 5 0) (.lst [kv (t,prT t 0)] tk0) H K:=
   fun h1 h2=>Pv hsz (Fq [(t,prT t 0)]) (by rw[hlen];simp;omega) (by rw[hlen];simp;omega) (by simp) h1 h2
  rw[show uB l r i 0=EI (kvs (d9 ((aR l).take i))) 306 from rfl,show uB l r i 3=.cells [Cy (kvs (d9 ((aR l).take i))) 5 0] 303 from rfl];generalize kvs (d9 ((aR l).take i))=XS at happ⊢;generalize prT t 0=st at happ hty⊢;obtain⟨tk,tn,ts,tl⟩:=t;conv=>whnf
  refine⟨rfl,?_⟩;conv=>whnf
  rw[show(tk==4)=false from hk];cases XS
  all_goals
   conv=>whnf
   refine hty.to ?_;conv=>whnf
   refine⟨⟨rfl,rfl,trivial⟩,?_⟩;conv=>whnf
   refine happ rfl ?_;conv=>whnf
   refine⟨rfl,?_⟩;exact⟨rfl,_,rfl⟩
 have hno:∀i t,(aR l)[i]?=some t→(t.kind==4)=true→l8 T.L 5 [t.av] (B i) (.ret (.bool false)) [uB l r i 0,.dead,bf t,uB l r i 3,.cells [.lst (TA.avs l) .none] 173,.loop r .ret]:=fun i t hit hk=>by
  rw[hB];have hl0:bI 6 (uB l r i 0):=sH (kS 6 _);have hl3:bI 6 (uB l r i 3):=dH ⟨sG (by decide:0<6),trivial⟩;refine l8.of rfl (.bool _) (eX.at ⟨hl0,trivial,aI (Nat.zero_le _) (cK _),hl3,dH ⟨.lst _ _ trivial (aY 6 l),trivial⟩,hlr,trivial⟩) ((hyp [t.av] [uB l r i 0,uB l r i 1,uB l r i 2,uB l r i 3,.cells [.lst (TA.avs l) .none] 173,.loop r .ready] (fun r' H'=>r'=.ret (.bool false)∧∃J,H'=[uB l r i 0,.dead,bf t,uB l r i 3,.cells [.lst (TA.avs l) .none] 173,.loop r .ret] ++J) rfl rfl ?_).mono fun r' H' ⟨e2,J,e3⟩=>⟨_,J,by rw[e2];exact Weak.refl _,e3,rfl,fun i x y h1 h2=>by rw[h1]at h2;cases h2;exact bJ.refl x⟩);generalize uB l r i 0=o0;generalize uB l r i 3=o3;obtain⟨tk,tn,ts,tl⟩:=t;conv=>whnf
  refine⟨rfl,?_⟩;conv=>whnf
  rw[show(tk==4)=true from hk];conv=>whnf
  refine⟨rfl,?_⟩;exact⟨rfl,_,rfl⟩
 clear hyp;obtain⟨stop,hstop⟩:∃stop,(aR l).findIdx (fun t=>t.kind==4)=stop:=⟨_,rfl⟩
 obtain⟨Bf,hBf⟩:∃Bf:Heap,Bf=match(aR l)[stop]? with
  |some t=>[uB l r stop 0,.dead,bf t,uB l r stop 3,.cells [.lst (TA.avs l) .none] 173,.loop r .ret]
  |none=>[.dead,.dead,.dead,.dead,.dead,.dead]:=⟨_,rfl⟩
 have F8:=Nj F.QK l (by have:=h.len;omega) (fun t ht=>by have:=h.parts t ht;omega) (uB l r) (fun i k hk=>by
   match k,hk with
   |0,_=>exact sH (kS 6 _)
   |1,_=>exact trivial
   |2,_=>exact aI (Nat.zero_le _) jR
   |3,_=>exact dH ⟨sG (by decide:0<6),trivial⟩
   |k+4,h=>omega) r hlr Bf (by rw[hBf];split<;>rfl) (by
   rw[hBf];split
   ·exact eX.at ⟨sH (kS 6 _),trivial,aI (Nat.zero_le _) (cK _),dH ⟨sG (by decide:0<6),trivial⟩,dH ⟨.lst _ _ trivial (aY 6 l),trivial⟩,hlr,trivial⟩
   ·exact eX.at ⟨trivial,trivial,trivial,trivial,trivial,trivial,trivial⟩) stop B (fun i=>by rw[hB]) (fun i t hit hlt=>hyes i t hit (by
    rw[←hstop]at hlt;have h1:=List.not_of_lt_findIdx hlt;have h2:=(List.getElem?_eq_some_iff.1 hit).2;rw[h2]at h1
    simpa using h1)) (fun t hit=>by
    have h3:=hno stop t hit (by
     have h1:=(List.getElem?_eq_some_iff.1 hit);have h2:(aR l).findIdx (fun t=>t.kind==4)<(aR l).length:=by rw[hstop];exact h1.1
     have h3:=List.findIdx_getElem (w:=h2);simp only[hstop,h1.2]at h3
     exact h3)
    rw[hBf,hit]
    exact h3)
 have hB0:B 0=[.dead,.dead,rR,.cells [.lst [] .nil] 303,.cells [.lst (TA.avs l) .none] 173,.loop r .ready]:=by rw[hB];rfl
 rw[hB0]at F8
 have hfl:(if stop<(aR l).length then Bf else B (aR l).length).length=6∧∀o∈(if stop<(aR l).length then Bf else B (aR l).length),bI 6 o:=by
  split
  ·rw[hBf]
   split
   ·exact⟨rfl,eX.at ⟨sH (kS 6 _),trivial,aI (Nat.zero_le _) (cK _),dH ⟨sG (by decide:0<6),trivial⟩,dH ⟨.lst _ _ trivial (aY 6 l),trivial⟩,hlr,trivial⟩⟩
   ·exact⟨rfl,eX.at ⟨trivial,trivial,trivial,trivial,trivial,trivial,trivial⟩⟩
  ·rw[hB]
   exact⟨rfl,eX.at ⟨sH (kS 6 _),trivial,aI (Nat.zero_le _) jR,dH ⟨sG (by decide:0<6),trivial⟩,dH ⟨.lst _ _ trivial (aY 6 l),trivial⟩,hlr,trivial⟩⟩
 have Tx:=aC.gcR (Q:=fun z H'=>z=.ret (.tup [])∧H'=(if stop<(aR l).length then Bf else B (aR l).length)) (F8.mono fun r' H' ⟨e1,J,e2⟩=>⟨.ret (.tup []),_,_,J,e2,by rw[e1];exact Weak.refl _,bH,hfl.1,rfl,fun i o o' h1 h2=>by rw[h1]at h2;cases h2;exact bJ.refl o,hfl.2,rfl,rfl⟩);refine Tx.mono fun r' H' ⟨_,e1,e2⟩=>?_
 clear F8 Tx hyes hno hfl;subst e1 e2
 cases hfd:(aR l).find? (fun t=>t.kind==4)with
 |some t=>
  have hR:mO l=t:=by unfold mO;rw[hfd]
  have hlt:stop<(aR l).length:=by
   rw[←hstop,List.findIdx_lt_length];exact⟨t,List.mem_of_find?_eq_some hfd,List.find?_some (p:=fun t:TA=>t.kind==4) hfd⟩
  have hgt:(aR l)[stop]?=some t:=by
   have:=List.find?_eq_getElem?_findIdx (p:=fun t:TA=>t.kind==4) (xs:=aR l);rw[hfd,hstop]at this;exact this.symm
  rw[if_pos hlt,hBf,hgt,hR];obtain⟨tk,tn,ts,tl⟩:=t;conv=>whnf
  refine⟨rfl,?_⟩;exact aH (Weak.refl _)
 |none=>
  have hge:¬stop<(aR l).length:=fun hlt=>by
   rw[←hstop,List.findIdx_lt_length]at hlt;obtain⟨t,ht,hk⟩:=hlt;have:=List.find?_eq_none.1 hfd t ht;exact this hk
  rw[if_neg hge,hB];have htake:(aR l).take (aR l).length=aR l:=List.take_length
  have hR:mO l=match fZ (l9 (d9 (aR l)))with
   |[p]=>p.1
   |ps=>.mk 7 [] [] (ps.map (·.1)):=by unfold mO;rw[hfd]
  obtain⟨X,hX⟩:∃X,d9 (aR l)=X:=⟨_,rfl⟩;have hXl:X.length≤2^30:=by rw[←hX];have:=h.all;simp[d9];omega
  have hinj:∀a∈X,∀b∈X,a.2=b.2→a=b:=fun a ha b hb e=>by
   rw[←hX]at ha hb;obtain⟨t,ht,rfl⟩:=List.mem_map.1 ha;obtain⟨u,hu,rfl⟩:=List.mem_map.1 hb;have:=h.inj t ht u hu e;rw[this]
  dsimp only;rw[show uB l r (aR l).length 0=EI (kvs X) 306 from by unfold uB;rw[htake,hX];rfl,show uB l r (aR l).length 3=.cells [Cy (kvs X) 5 0] 303 from by unfold uB;rw[htake,hX];rfl];rw[hX]at hR
  cases X with
  |nil=>
   conv=>whnf
   refine⟨rfl,?_⟩;conv=>whnf
   refine(F.P5.CU _).to1 ?_;conv=>whnf
   refine(F.P5.La _).to1 ?_;conv=>whnf
   intro I hI hG;apply hI;conv=>whnf
   rw[hR,show fZ (l9 [])=[]from by simp[l9,fZ]];exact aH (vW 7 [])
  |cons p0 X0=>
   obtain⟨X,hX1⟩:∃X,p0::X0=X:=⟨_,rfl⟩;have Zt:X≠[]:=by rw[←hX1];simp
   rw[hX1]at hR hinj hXl⊢;have hkne:kvs X≠[]:=by unfold kvs;simpa using Zt
   rw[yD hkne,yE hkne,jJ];obtain⟨n,hn⟩:∃n,n=X.length:=⟨_,rfl⟩;rw[←hn]at hXl⊢;conv=>whnf
   refine⟨rfl,?_⟩;conv=>whnf
   refine(F.P5.sort X n 0 306 _ rfl hn Zt (by omega)).mono fun r1 H1 ⟨e1,ys,hp,WM,e2⟩=>?_
   subst e1 e2;have hys:=yH hp WM hinj;rw[←hys]at hR;have hyl:ys.length=n:=by rw[hp.length_eq,hn]
   have hyne:ys≠[]:=by rintro rfl;simp at hyl;rw[hn]at hyl;exact Zt (List.eq_nil_of_length_eq_zero hyl.symm)
   conv=>whnf
   refine(F.P5.compact ys n 0 306 _ rfl hyl.symm hyne (by omega)).mono fun r1 H1 ⟨e1,rest,hrest,hlen,e2⟩=>?_
   subst e1 e2;generalize fZ ys=Z at hR hlen⊢
   have h5:∀x∈kvs Z ++rest,x.cells.length=5:=fun x hx=>by
    rcases List.mem_append.1 hx with hx|hx
    ·exact vH Z x hx
    ·exact(hrest x hx).2
   conv=>whnf
   cases hZ:((Z.length:Int)==1)
   ·conv=>whnf
    have hR:mO l=.mk 7 [] [] (Z.map (·.1)):=by
     rw[hR]
     match Z,hZ with
     |[],_=>rfl
     |[z],hZ=>exact absurd hZ (by simp)
     |z::z'::Z',_=>rfl
    rw[hR];intro I hI hG;obtain⟨m,hm⟩:∃m,Z.length=m:=⟨_,rfl⟩
    have hlow7:bI 7 (.arr n (kvs Z ++rest) 306):=fun x hx=>by
     rcases List.mem_append.1 hx with hx|hx
     ·exact kS 7 Z x hx
     ·exact(hrest x hx).1.mono (Nat.zero_le _)
    have key:∀(d k:Nat) (e:Env),m-k=d→k≤m→I (gB e [(2,.ptr 2 0),(5,.ptr 6 0),(34,.vec 0 n 5 0 m),(35,.int .i64 m),(36,.int .i64 k)])
      [.arr n (kvs Z ++rest) 306,bC (TA.avs ((Z.map (·.1)).take k)).length 175,rR,.cells [.vec 0 n 5 0 m] 303,.cells [.lst (TA.avs l) .none] 173,.gone,.cells [.int .i64 7,.str [],.lst [] .nil,.lst (TA.avs ((Z.map (·.1)).take k)) (bK (TA.avs ((Z.map (·.1)).take k)).length 1)] 175]:=by
     intro d
     induction d with
     |zero=>
      intro k e hd hk;have hkm:k=m:=by omega
      apply hI;conv=>whnf
      rw[bU (by omega)];conv=>whnf
      rw[show(Z.map (·.1)).take k=Z.map (·.1)from List.take_of_length_le (by rw[List.length_map];omega)];refine aH ?_;show Weak T.L _ (TA.mk 7 [] [] (Z.map (·.1))).av;rw[TA.av];exact Weak.agg ⟨Weak.refl _,Weak.refl _,Weak.tok _ _,Weak.tok _ _,trivial⟩
     |succ d ih=>
      intro k e hd hk;have hlt:k<m:=by omega
      have hkZ:k<Z.length:=by omega
      have hnext:=fun e=>ih (k+1) e (by omega) hlt
      have hget:(kvs Z ++rest)[k]?=some (kv Z[k]):=by
       rw[List.getElem?_append_left (by rw[jJ];exact hkZ),kvs,List.getElem?_map,List.getElem?_eq_getElem hkZ];rfl
      have htk:TA.avs ((Z.map (·.1)).take (k+1))=TA.avs ((Z.map (·.1)).take k) ++[Z[k].1.av]:=by
       have hk1:k<(Z.map (·.1)).length:=by simpa using hkZ
       rw[List.take_succ_eq_append_getElem hk1,jC,List.getElem_map];rfl
      have hlk:(TA.avs ((Z.map (·.1)).take k)).length=k:=by rw[bY];simp;omega
      have hsz:=gL ((Z.map (·.1)).take k);rw[htk]at hnext;generalize TA.avs ((Z.map (·.1)).take k)=YS at htk hnext hlk hsz⊢;generalize Z[k]=z at hget htk hnext;obtain⟨⟨zk,zn,zs,zl⟩,zt⟩:=z;apply hI;conv=>whnf
      rw[dz hlt];conv=>whnf
      refine⟨⟨Int.natCast_nonneg _,by omega,rfl⟩,?_⟩;conv=>whnf
      rw[show(0+((k:Nat):Int).toNat)*5=k*5 from by simp,wF (t:=306) (i:=k) (x:=kv (.mk zk zn zs zl,zt)) ?_ h5 hget]
      ·conv=>whnf
       refine dS (id:=1) hsz (bP rfl) (by simp[hlk];omega) (by simp[hlk];omega) (by simp) rfl ?_;conv=>whnf
       refine hG.keep [(2,.ptr 2 0),(5,.ptr 6 0),(34,.vec 0 n 5 0 m),(35,.int .i64 m),(36,.int .i64 (k+1:Nat))] [.arr n (kvs Z ++rest) 306,bC (YS ++[au.agg [.int .i64 zk,.str zn,.lst (aO zs) .none,.lst (TA.avs zl) .none]]).length 175,rR,.cells [.vec 0 n 5 0 m] 303,.cells [.lst (TA.avs l) .none] 173,.gone,.cells [.int .i64 7,.str [],.lst [] .nil,.lst (YS ++[au.agg [.int .i64 zk,.str zn,.lst (aO zs) .none,.lst (TA.avs zl) .none]]) (bK (YS ++[au.agg [.int .i64 zk,.str zn,.lst (aO zs) .none,.lst (TA.avs zl) .none]]).length 1)] 175]
        (Nat.le_refl 7) rfl ⟨rfl,rfl,rfl,rfl,add1 (by omega),trivial⟩ ⟨.ptr _ _ (by decide:2<7),.ptr _ _ (by decide:6<7),.vec _ _ _ _ _ (by decide:0<7),.int _ _,.int _ _,trivial⟩ ?_ (hnext _)
       refine⟨hlow7,bG _ _ _,aI (Nat.zero_le _) jR,dH ⟨.vec _ _ _ _ _ (by decide:0<7),trivial⟩,dH ⟨.lst _ _ trivial (aY 7 l),trivial⟩,trivial,dH ⟨.int _ _,.str _,.lst _ _ trivial fK,.lst _ _ (dO (by decide:1<7)) ?_,trivial⟩,trivial⟩;intro x hx;have:x∈TA.avs ((Z.map (·.1)).take (k+1)):=by rw[htk];exact hx
       exact aY 7 _ x this
      ·rfl
    subst hm;exact inv_of [(2,.ptr 2 0),(5,.ptr 6 0),(34,.vec 0 n 5 0 Z.length),(35,.int .i64 Z.length),(36,.int .i64 0)] ⟨rfl,rfl,rfl,rfl,rfl,trivial⟩ (key Z.length 0 _ rfl (Nat.zero_le _))
   ·obtain⟨z,rfl⟩:=List.length_eq_one_iff.1 (show Z.length=1 by simp at hZ;omega)
    have hR:mO l=z.1:=hR;rw[hR];conv=>whnf
    refine⟨⟨Int.le_refl _,by simp,rfl⟩,?_⟩;conv=>whnf
    obtain⟨⟨zk,zn,zs,zl⟩,zt⟩:=z;rw[show(0+(0:Int).toNat)*5+0=0*5 from rfl,SN (t:=306) (i:=0) (x:=kv (.mk zk zn zs zl,zt)) ?_ h5 rfl]
    ·conv=>whnf
     exact aH (Weak.refl _)
    ·rfl
end Go.Ag
/- Package types: Norm, Text, Join. -/
namespace Go.Ag
open Go
variable {T : Tab} {L : Lnk}
mutual
def aN :TA→TA
 |.mk k nm ns l=>if k=7 then mO (dM l)else .mk k nm ns (dM l)
def dM :List TA→List TA
 |[]=>[]
 |t::l=>aN t::dM l
end
theorem dP (l:List TA):dM l=l.map aN:=by
 induction l with
 |nil=>rw[dM];rfl
 |cons t l ih=>rw[dM,ih];rfl
mutual
def okN :TA→Prop
 |.mk k nm ns l=>l.length≤2^30∧ns.length≤2^40∧Qo l∧(k=7→I6 (dM l))
def Qo :List TA→Prop
 |[]=>True
 |t::l=>okN t∧Qo l
end
theorem J7 :∀{l:List TA} {t:TA},Qo l→t∈l→okN t
 |[],t,_,h=>by cases h
 |u::l,t,h,hm=>by
  rw[Qo]at h;rcases List.mem_cons.1 hm with rfl|hm
  ·exact h.1
  ·exact J7 h.2 hm
theorem FM (F:AA T):∀(n:Nat) (t:TA),wtT t<n→okN t→Pure T.L 186 [t.av] (aN t).av
 |0=>fun t h=>by omega
 |n+1=>fun t hlt hok=>by
  have ih:=FM F n;obtain⟨k,nm,ns,l⟩:=t;rw[okN]at hok;have hlen:=hok.1;refine Pure.Ms 1 (dD (aQ _ _)) (aQ _ _) (aG F.XM (by simp[U6]) ?_);obtain⟨R,hR⟩:∃R,aN (.mk k nm ns l)=R:=⟨_,rfl⟩;rw[hR];rw[aN]at hR;conv=>whnf
  intro I hI hG
  have key:∀(d j:Nat) (e:Env),l.length-j=d→j≤l.length→I (gB e [(1,.ptr 1 0),(2,.ptr 2 0),(3,.lst (TA.avs ((dM l).take j)) (bK (TA.avs ((dM l).take j)).length 0)),(7,.lst (TA.avs l) .none),(8,.int .i64 l.length),(9,.int .i64 j)])
    [bC (TA.avs ((dM l).take j)).length 175,bf (.mk k nm ns l),rR]:=by
   intro d
   induction d with
   |zero=>
    intro j e hd hj;have hjl:j=l.length:=by omega
    have hnl:(dM l).length=l.length:=by rw[dP];simp
    apply hI;conv=>whnf
    rw[bU (by omega)];conv=>whnf
    rw[show(dM l).take j=dM l from List.take_of_length_le (by omega)];cases hk:(k==7)
    ·rw[if_neg (by simpa using hk)]at hR
     subst hR;conv=>whnf
     refine(F.P5.clone ns hok.2.1).to ?_;conv=>whnf
     refine⟨⟨rfl,rfl,trivial⟩,?_⟩;conv=>whnf
     refine aH ?_;rw[TA.av];exact Weak.agg ⟨Weak.refl _,Weak.refl _,Weak.refl _,Weak.tok _ _,trivial⟩
    ·rw[if_pos (by simpa using hk)]at hR
     subst hR;have hu:=L9 F (dM l) (hok.2.2.2 (by simpa using hk));obtain⟨⟨uk,un,us,ul⟩,hU⟩:∃U,mO (dM l)=U:=⟨_,rfl⟩;rw[hU]at hu⊢;conv=>whnf
     refine(hu.weak (args:=[.lst (TA.avs (dM l)) (bK (TA.avs (dM l)).length 0)]) ⟨Weak.tok _ _,trivial⟩).to ?_;conv=>whnf
     exact aH (Weak.refl _)
   |succ d ihd=>
    intro j e hd hj;have hjl:j<l.length:=by omega
    have hnext:=fun e=>ihd (j+1) e (by omega) hjl
    have hmem:=List.getElem_mem hjl;have hwt:=iP hmem
    have hnj:(dM l).take (j+1)=(dM l).take j ++[aN l[j]]:=by
     rw[dP,List.take_succ_eq_append_getElem (by simpa using hjl),List.getElem_map]
    have hcall:=ih l[j] (by rw[wtT]at hlt;omega) (J7 hok.2.2.1 hmem);have hget:=mP hjl;rw[hnj,jC]at hnext;have hlk:(TA.avs ((dM l).take j)).length=j:=by rw[bY,dP];simp;omega
    have hsz:=gL ((dM l).take j);have hlY:=aY 3 ((dM l).take j);generalize TA.avs ((dM l).take j)=YS at hnext hlk hsz hlY⊢;generalize aN l[j]=u at hcall hnext;generalize l[j]=v at hcall hget;obtain⟨uk,un,us,ul⟩:=u;obtain⟨vk,vn,vs,vl⟩:=v;apply hI;conv=>whnf
    rw[dz hjl];conv=>whnf
    refine step_elem (Int.natCast_nonneg _) hget rfl ?_;conv=>whnf
    refine hcall.to ?_;conv=>whnf
    refine dS (id:=0) hsz (bP rfl) (by simp[hlk];omega) (by simp[hlk];omega) (by simp) rfl ?_;conv=>whnf
    have hlU:∀x∈YS ++TA.avs [.mk uk un us ul],Low 3 x:=fun x hx=>by
     rcases List.mem_append.1 hx with hx|hx
     ·exact hlY x hx
     ·exact aY 3 _ x hx
    exact hG.keep [(1,.ptr 1 0),(2,.ptr 2 0),(3,.lst (YS ++TA.avs [.mk uk un us ul]) (bK (YS ++TA.avs [.mk uk un us ul]).length 0)),(7,.lst (TA.avs l) .none),(8,.int .i64 l.length),(9,.int .i64 (j+1:Nat))]
     [bC (YS ++TA.avs [.mk uk un us ul]).length 175,bf (.mk k nm ns l),rR] (Nat.le_refl 3) rfl ⟨rfl,rfl,rfl,rfl,rfl,add1 (by omega),trivial⟩
     ⟨.ptr _ _ (by decide:1<3),.ptr _ _ (by decide:2<3),.lst _ _ (dO (by decide:0<3)) hlU,.lst _ _ trivial (aY 3 l),.int _ _,.int _ _,trivial⟩
     ⟨bG _ _ _,aI (Nat.zero_le _) (cK _),aI (Nat.zero_le _) jR,trivial⟩ (hnext _)
  exact inv_of [(1,.ptr 1 0),(2,.ptr 2 0),(3,.lst [] .nil),(7,.lst (TA.avs l) .none),(8,.int .i64 l.length),(9,.int .i64 0)] ⟨rfl,rfl,rfl,rfl,by show au.int .i64 ((TA.avs l).length:Nat)=_;rw[bY],rfl,trivial⟩ (key l.length 0 _ rfl (Nat.zero_le _))
theorem wT (F:AA T) (t:TA) (h:okN t):Pure T.L 186 [t.av] (aN t).av:=FM F (wtT t+1) t (Nat.lt_succ_self _) h
theorem RF (F:AA T) (t:TA) (h:okN t) (hw:wtT (aN t)≤2^40) (hf:wfT (aN t)):Pure T.L 150 [t.av] (.str (prT (aN t) 0)):=by
 have h1:=wT F t h;have h2:=LH F.toyw (aN t) hw hf;generalize aN t=u at h1 h2⊢;obtain⟨uk,un,us,ul⟩:=u;obtain⟨k,nm,ns,l⟩:=t;refine Pure.run (dD (aQ _ _)) (.str _) (aG F.XZ (by simp[Vi]) ?_);conv=>whnf
 refine h1.to ?_;conv=>whnf
 refine h2.to ?_;conv=>whnf
 exact aH (Weak.refl _)
def xE (l:List TA):TA:=aN (.mk 7 [] [] l)
theorem RI (F:AA T) (l:List TA) (h:okN (.mk 7 [] [] l)):Pure T.L 151 [.lst (TA.avs l) .none] (xE l).av:=by
 have h1:=(wT F _ h).weak (args:=[.agg [.int .i64 7,.str [],.lst [] .nil,.lst (TA.avs l) .none]]) ⟨Weak.agg ⟨Weak.refl _,Weak.refl _,Weak.tok _ _,Weak.refl _,trivial⟩,trivial⟩;unfold xE;generalize aN (.mk 7 [] [] l)=u at h1⊢;obtain⟨uk,un,us,ul⟩:=u;refine Pure.run (dD (.lst _ _ trivial (aY 0 l))) (aQ _ _) (aG F.XY (by simp[Vh]) ?_);conv=>whnf
 refine h1.to ?_;conv=>whnf
 exact aH (Weak.refl _)
end Go.Ag
/- Abstract codes, printed by a program of ours (acode.py) out of the given program's form. -/
namespace Go.Ag
open Go
def Vm :aM:=(.mk 1 66 [2] (.seq (.ops [(.d 2 (.mv (.const .eD)))]) (.seq (.ops [(.d 9 .mkMap),(.d 10 .mkMap),(.d 11 (.build [.gW,.gW] [(0,(1,9)),(1,(1,10))])),(.d 12 (.box 234 11)),(.d 3 (.mv 12))]) (.seq (.seq (.ops [(.d 13 (.mv 0)),(.d 14 (.jo 13)),(.d 15 (.mv (.const (.i 0))))]) (.block 0 (.loop (.seq (.ops [(.d 16 (.bin .lss 15 14))]) (.seq (.cond 16 .skip (.exit 0)) (.seq (.block 1 (.seq (.ops [(.d 17 (.aV 5 13 15)),(.d 18 (.load (some 5) 17)),(.d 5 (.alloc [(.str []),(.i 0),(.str []),.nl,.nl] 182)),(.n (.store 5 5 18))]) (.seq (.iy [(.d 20 (.mv 3)),(.d 21 (.aJ 20)),(.d 22 (.aB 0 21)),(.d 23 (.load none 22)),(.d 24 (.aB 0 5)),(.d 25 (.load none 24)),(.d 6 (.alloc [(.i 0),(.str []),.nl,.nl] 175))] (.alt (.d 26 (.look 1 (.agg [(.i 0),(.str []),.nl,.nl]) true 23 25)) [] (.alt (.d 19 (.mv 26)) [] (.alt (.d 27 (.ext 19 0)) [] (.alt (.d 28 (.ext 19 1)) [] (.alt (.n (.store 4 6 27)) [] (.alt (.d 7 (.mv 28)) [] .done .stop) .stop) (.alt (.n (.store 4 6 27)) [] (.alt (.d 28 (.ext 19 1)) [] (.alt (.d 7 (.mv 28)) [] .done .stop) .stop) .stop)) (.alt (.d 28 (.ext 19 1)) [] (.alt (.d 27 (.ext 19 0)) [] (.alt (.n (.store 4 6 27)) [] (.alt (.d 7 (.mv 28)) [] .done .stop) .stop) .stop) .stop)) .stop) .stop)) (.seq (.ops [(.d 29 (.mv 7)),(.d 30 (.un .not 29))]) (.cond 30 (.iy [(.d 31 (.mv 3)),(.d 32 (.aJ 31)),(.d 33 (.aB 0 32)),(.d 34 (.load none 33)),(.d 35 (.aB 0 5)),(.d 36 (.load none 35)),(.d 37 (.aB 1 5)),(.d 38 (.load (some 4) 37))] (.alt (.d 39 (.call 186 [38])) [(none,33),(none,35)] (.alt (.n (.ug 1 34 36 39)) [] .done .stop) .stop)) .skip))))) (.ops [(.d 40 (.bin .add 15 (.const (.i 1)))),(.d 15 (.mv 40))]))))))) (.seq (.seq (.ops [(.d 41 (.mv 3)),(.d 42 (.aJ 41)),(.d 43 (.aB 0 42)),(.d 44 (.load none 43)),(.d 45 (.rO 44))]) (.block 2 (.loop (.seq (.ops [(.d 46 (.vC 45)),(.d 47 (.ext 46 0))]) (.seq (.cond 47 .skip (.exit 2)) (.block 3 (.seq (.ops [(.d 48 (.oG 45)),(.d 49 (.ext 48 0)),(.d 8 (.mv 49))]) (.iy [(.d 50 (.mv 3)),(.d 51 (.aJ 50)),(.d 52 (.aB 1 51)),(.d 53 (.load none 52)),(.d 54 (.mv 8)),(.d 55 (.mv 3)),(.d 56 (.mv 8)),(.d 57 (.mv 3)),(.d 58 (.aJ 57)),(.d 59 (.aB 0 58)),(.d 60 (.load none 59)),(.d 61 (.mv 8))] (.alt (.d 62 (.look 1 (.agg [(.i 0),(.str []),.nl,.nl]) false 60 61)) [] (.alt (.d 63 .mkMap) [] (.alt (.d 64 (.call 187 [55,56,62,63])) [(none,52)] (.alt (.n (.ug 1 53 54 64)) [] .done .stop) .stop) .stop) (.alt (.d 63 .mkMap) [] (.alt (.d 62 (.look 1 (.agg [(.i 0),(.str []),.nl,.nl]) false 60 61)) [] (.alt (.d 64 (.call 187 [55,56,62,63])) [(none,52)] (.alt (.n (.ug 1 53 54 64)) [] .done .stop) .stop) .stop) .stop)))))))))) (.seq (.ops [(.d 65 (.mv 3)),(.d 2 (.mv 65))]) .ret))))))
def Pf :aM:=(.mk 1 4 [2] (.seq (.ops [(.d 1 (.box 175 0)),(.d 2 (.mv (.const .lM)))]) (.seq (.ops [(.d 3 (.mkF (.func 257) [] [1])),(.d 2 (.mv 3))]) .ret)))
def O9 :aM:=(.mk 2 6 [] (.ops [(.d 3 (.load (some 4) 1)),(.d 4 (.mv 0)),(.d 5 (.call 258 [3,4]))]))
def O8 :aM:=(.mk 2 29 [4] (.seq (.ops [(.d 2 (.box 175 0)),(.d 4 (.mv (.const (.bool false))))]) (.seq (.seq (.ops [(.d 7 (.aB 0 2)),(.d 8 (.load none 7))]) (.block 0 (.seq (.ops [(.d 10 (.bin .eql 8 (.const (.i 8)))),(.d 9 (.mv 10))]) (.cond 9 (.seq (.ops [(.d 11 (.mv 1)),(.d 12 (.aB 1 2)),(.d 13 (.load none 12)),(.d 14 (.fJ 11 [13])),(.d 4 (.mv 14))]) .ret) (.seq (.ops [(.d 16 (.bin .eql 8 (.const (.i 7)))),(.d 15 (.mv 16))]) (.cond 15 (.seq (.ops [(.d 17 (.aB 3 2)),(.d 18 (.load none 17)),(.d 19 (.jo 18)),(.d 20 (.mv (.const (.i 0))))]) (.block 1 (.loop (.seq (.ops [(.d 21 (.bin .lss 20 19))]) (.seq (.cond 21 .skip (.exit 1)) (.seq (.block 2 (.seq (.ops [(.d 22 (.aV 4 18 20)),(.d 23 (.load (some 4) 22)),(.d 6 (.alloc [(.i 0),(.str []),.nl,.nl] 175)),(.n (.store 4 6 23))]) (.seq (.ops [(.d 24 (.load (some 4) 6)),(.d 25 (.mv 1)),(.d 26 (.call 258 [24,25])),(.d 27 (.un .not 26))]) (.cond 27 (.seq (.ops [(.d 4 (.mv (.const (.bool false))))]) .ret) .skip)))) (.ops [(.d 28 (.bin .add 20 (.const (.i 1)))),(.d 20 (.mv 28))]))))))) .skip)))))) (.seq (.ops [(.d 4 (.mv (.const (.bool true))))]) .ret))))
def U5 :aM:=(.mk 4 31 [(.cell 8 none)] (.seq (.ops [(.d 4 (.box 179 0)),(.d 5 (.box 10 1)),(.d 6 (.box 175 2)),(.d 7 (.box 232 3)),(.d 8 (.alloc [(.bool false)] 5))]) (.seq (.seq (.ops [(.d 10 (.load (some 4) 6)),(.d 11 (.call 225 [10]))]) (.block 0 (.tO 11 [12] (.ops [(.d 9 (.mv 12))]) (.block 1 (.seq (.seq (.ops [(.d 13 (.mv 9)),(.d 14 (.load none 5)),(.d 15 (.bin .eql 13 14))]) (.cond 15 (.seq (.ops [(.n (.store 1 8 (.const (.bool true))))]) .ret) .skip)) (.seq (.seq (.ops [(.d 16 (.load none 7)),(.d 17 (.mv 9)),(.d 18 (.look 1 (.bool false) false 16 17))]) (.cond 18 (.exit 1) .skip)) (.seq (.ops [(.d 19 (.load none 7)),(.d 20 (.mv 9)),(.n (.ug 1 19 20 (.const (.bool true))))]) (.seq (.draw [(.d 21 (.load none 4)),(.d 22 (.load none 5)),(.d 23 (.load none 4)),(.d 24 (.aJ 23)),(.d 25 (.aB 0 24)),(.d 26 (.load none 25)),(.d 27 (.mv 9)),(.d 29 (.load none 7))] [(.d 28 (.look 1 (.agg [(.i 0),(.str []),.nl,.nl]) false 26 27)),(.d 30 (.call 187 [21,22,28,29]))]) (.cond 30 (.seq (.ops [(.n (.store 1 8 (.const (.bool true))))]) .ret) .skip))))))))) (.seq (.ops [(.n (.store 1 8 (.const (.bool false))))]) .ret))))
def Vg :aM:=(.mk 2 22 [(.cell 4 (some 4)),5] (.seq (.ops [(.d 4 (.alloc [(.i 0),(.str []),.nl,.nl] 175)),(.d 5 (.mv (.const (.bool false))))]) (.seq (.seq (.ops [(.d 8 (.mv 0)),(.d 9 (.eqNil 2 false 8))]) (.cond 9 (.seq (.ops [(.d 10 (.build [(.i 0),(.str []),.nl,.nl] [])),(.n (.store 4 4 10)),(.d 5 (.mv (.const (.bool false))))]) .ret) .skip)) (.seq (.ops [(.d 12 (.mv 0)),(.d 13 (.aJ 12)),(.d 14 (.aB 0 13)),(.d 15 (.load none 14)),(.d 16 (.mv 1)),(.d 17 (.look 1 (.agg [(.i 0),(.str []),.nl,.nl]) true 15 16)),(.d 11 (.mv 17)),(.d 18 (.ext 11 0)),(.d 19 (.ext 11 1)),(.d 6 (.alloc [(.i 0),(.str []),.nl,.nl] 175)),(.n (.store 4 6 18)),(.d 7 (.mv 19))]) (.seq (.ops [(.d 20 (.load (some 4) 6)),(.d 21 (.mv 7)),(.n (.store 4 4 20)),(.d 5 (.mv 21))]) .ret)))))
def Vl :aM:=(.mk 2 21 [4] (.seq (.ops [(.d 4 (.mv (.const (.bool false))))]) (.seq (.seq (.ops [(.d 8 (.mv 0)),(.d 9 (.mv 1)),(.d 10 (.call 153 [8,9])),(.d 7 (.mv 10)),(.d 11 (.ext 7 0)),(.d 12 (.ext 7 1)),(.d 5 (.alloc [(.i 0),(.str []),.nl,.nl] 175)),(.n (.store 4 5 11)),(.d 6 (.mv 12))]) (.seq (.ops [(.d 13 (.mv 6)),(.d 14 (.un .not 13))]) (.cond 14 (.seq (.ops [(.d 4 (.mv (.const (.bool true))))]) .ret) .skip))) (.seq (.ops [(.d 15 (.mv 0)),(.d 16 (.aJ 15)),(.d 17 (.aB 1 16)),(.d 18 (.load none 17)),(.d 19 (.mv 1)),(.d 20 (.look 1 (.bool false) false 18 19)),(.d 4 (.mv 20))]) .ret))))
def UN :aM:=(.mk 2 45 [4] (.seq (.ops [(.d 3 (.box 175 1)),(.d 4 (.mv (.const .nl)))]) (.seq (.seq (.ops [(.d 8 (.aB 0 3)),(.d 9 (.load none 8))]) (.block 0 (.seq (.ops [(.d 11 (.bin .eql 9 (.const (.i 8)))),(.d 10 (.mv 11))]) (.cond 10 (.seq (.seq (.ops [(.d 12 (.mv 0)),(.d 13 (.aB 1 3)),(.d 14 (.load none 13)),(.d 15 (.call 146 [12,14]))]) (.cond 15 (.seq (.ops [(.d 16 (.build [(.i 0),(.str []),.nl,.nl] [(0,(1,(.const (.i 4))))])),(.d 17 (.lit 4 72 [] 1 [(0,16)])),(.d 4 (.mv 17))]) .ret) .skip)) (.seq (.draw [(.d 18 (.mv 0)),(.d 19 (.mv 0)),(.d 20 (.aJ 19)),(.d 21 (.aB 0 20)),(.d 22 (.load none 21)),(.d 23 (.aB 1 3)),(.d 24 (.load none 23))] [(.d 25 (.look 1 (.agg [(.i 0),(.str []),.nl,.nl]) false 22 24)),(.d 26 (.call 226 [18,25])),(.d 4 (.mv 26))]) .ret)) (.seq (.ops [(.d 28 (.bin .eql 9 (.const (.i 7)))),(.d 27 (.mv 28))]) (.cond 27 (.seq (.ops [(.d 5 (.mv (.const .nl)))]) (.seq (.seq (.ops [(.d 29 (.aB 3 3)),(.d 30 (.load none 29)),(.d 31 (.jo 30)),(.d 32 (.mv (.const (.i 0))))]) (.block 1 (.loop (.seq (.ops [(.d 33 (.bin .lss 32 31))]) (.seq (.cond 33 .skip (.exit 1)) (.seq (.block 2 (.seq (.ops [(.d 34 (.aV 4 30 32)),(.d 35 (.load (some 4) 34)),(.d 7 (.alloc [(.i 0),(.str []),.nl,.nl] 175)),(.n (.store 4 7 35))]) (.ops [(.d 36 (.mv 5)),(.d 37 (.mv 0)),(.d 38 (.load (some 4) 7)),(.d 39 (.call 226 [37,38])),(.d 40 (.append 4 72 175 36 39)),(.d 5 (.mv 40))]))) (.ops [(.d 41 (.bin .add 32 (.const (.i 1)))),(.d 32 (.mv 41))]))))))) (.seq (.ops [(.d 42 (.mv 5)),(.d 4 (.mv 42))]) .ret))) .skip)))))) (.seq (.ops [(.d 43 (.load (some 4) 3)),(.d 44 (.lit 4 72 [] 1 [(0,43)])),(.d 4 (.mv 44))]) .ret))))
def U4 :aM:=(.mk 2 10 [(.cell 4 (some 4))] (.seq (.ops [(.d 3 (.box 175 1)),(.d 4 (.alloc [(.i 0),(.str []),.nl,.nl] 175))]) (.seq (.ops [(.d 5 (.mv 0)),(.d 6 (.load (some 4) 3)),(.d 7 (.call 186 [6])),(.d 8 (.call 226 [5,7])),(.d 9 (.call 151 [8])),(.n (.store 4 4 9))]) .ret)))
def Vj :aM:=(.mk 2 16 [4] (.seq (.ops [(.d 3 (.box 175 1)),(.d 4 (.mv (.const .nl)))]) (.seq (.ops [(.d 6 (.mv 0)),(.d 7 (.load (some 4) 3)),(.d 8 (.call 188 [6,7])),(.d 5 (.alloc [(.i 0),(.str []),.nl,.nl] 175)),(.n (.store 4 5 8))]) (.seq (.seq (.ops [(.d 9 (.aB 0 5)),(.d 10 (.load none 9)),(.d 11 (.bin .eql 10 (.const (.i 7))))]) (.cond 11 (.seq (.ops [(.d 12 (.aB 3 5)),(.d 13 (.load none 12)),(.d 4 (.mv 13))]) .ret) .skip)) (.seq (.ops [(.d 14 (.load (some 4) 5)),(.d 15 (.lit 4 72 [] 1 [(0,14)])),(.d 4 (.mv 15))]) .ret)))))
end Go.Ag
/- Package alias: what reads an environment. -/
namespace Go.Ag
open Go
variable {T : Tab} {L : Lnk}
structure dL where
 by_:List (Bytes×TA)
 empty:List (Bytes×Bool)
def gF :List (Bytes×Bool)→Nat→List (au×au×Nat)
 |[],_=>[]
 |p::l,k=>(.str p.1,.bool p.2,k)::gF l (k+1)
def iU (e:dL):Heap:=[.map (cu e.by_ 0) e.by_.length,.map (gF e.empty 0) e.empty.length,.cells [.map 0,.map 1] 234]
theorem fA (n:Nat):∀(l:List (Bytes×Bool)) (k:Nat),∀e∈gF l k,Low n e.1∧Low n e.2.1
 |[],k,e,h=>by cases h
 |p::l,k,e,h=>by
  rcases List.mem_cons.1 h with rfl|h
  ·exact⟨.str _,.bool _⟩
  ·exact fA n l (k+1) e h
theorem sJ (e:dL):∀o∈iU e,bI 3 o:=
 eX.at ⟨dY 3 _ _,fA 3 _ _,dH ⟨.map _ (by decide:0<3),.map _ (by decide:1<3),trivial⟩,trivial⟩
def EK (L:Lnk) (f:Nat) (args:List au) (e:dL) (y:au):Prop:=bX L f (.ptr 2 0::args) (iU e) y (iU e)
theorem EK.of {f:Nat} {args:List au} {e:dL} {y:au} (k:Nat) (hy:Low 3 y) (h:aC L f (.ptr 2 0::args) (iU e ++List.replicate k .dead) fun r H'=>∃x J,r=.ret x∧Weak L x y∧H'=iU e ++J):EK L f args e y:=
 bX.of k rfl hy (sJ e) (h.mono fun r H' ⟨x,J,e1,e2,e3⟩=>⟨x,iU e,J,e1,e2,e3,rfl,fun i x y h1 h2=>by rw[h1]at h2;cases h2;exact bJ.refl x⟩)
theorem EK.to {f:Nat} {args:List au} {e:dL} {y:au} (h:EK L f args e y) (hargs:∀x∈args,Low 3 x) (hy:Low 3 y) {H:Heap} {K KP:au→Heap→Prop} (J:Heap) (hH:H=iU e ++J) (hk:K y (iU e ++J)):aC L f (.ptr 2 0::args) H (eB K KP):=
 bX.to h rfl (fun x hx=>by
  rcases List.mem_cons.1 hx with rfl|hx
  ·exact .ptr _ _ (show 2<3 by decide)
  ·exact hargs x hx) (sJ e) hy (sJ e) J hH hk
def Ug (e:dL) (nm:Bytes):Option TA:=(e.by_.find? (·.1==nm)).map (·.2)
theorem Kh {H:Heap} {id c:Nat} {l:List (Bytes×TA)} (h:H[id]?=some (.map (cu l 0) c)) (nm:Bytes) (z:au):
  mq 1 z true H (.map id) (.str nm)=some (.tup [((l.find? (·.1==nm)).map (·.2.av)).getD z,.bool (l.find? (·.1==nm)).isSome]):=by
 simp only[mq,lG,h,Gh,Option.map_some,yZ]
 have h2:(l.findIdx? (·.1==nm)).isSome=(l.find? (·.1==nm)).isSome:=by
  rw[List.findIdx?_isSome,Bool.eq_iff_iff,List.any_eq_true,List.find?_isSome]
 cases hf:l.find? (·.1==nm)with
 |none=>
  rw[hf]at h2
  cases hg:l.findIdx? (·.1==nm)with
  |none=>rfl
  |some j=>rw[hg]at h2;cases h2
 |some p=>
  rw[hf]at h2
  cases hg:l.findIdx? (·.1==nm)with
  |none=>rw[hg]at h2;cases h2
  |some j=>rfl
end Go.Ag
/- Package alias: Def, Empty. -/
namespace Go.Ag
open Go
variable {T : Tab} {L : Lnk}
structure AJ (T:Tab):Prop extends AA T where
 XW:T.has 153 Vg
 X5:T.has 146 Vl
 Xy:T.has 226 UN
 XK:T.has 188 U4
 X3:T.has 149 Vj
def yg (e:dL) (nm:Bytes):TA×Bool:=match Ug e nm with
 |some t=>(t,true)
 |none=>(mJ,false)
theorem Ue (F:AJ T) (e:dL) (nm:Bytes):EK T.L 153 [.str nm] e (.tup [(yg e nm).1.av,.bool (yg e nm).2]):=by
 refine EK.of 0 (.tup _ (gq.at ⟨aQ _ _,.bool _,trivial⟩)) (aG F.XW (by simp[Vg]) ?_);have hP:=yg.eq_1 e nm;unfold Ug at hP;generalize yg e nm=R at hP⊢;conv=>whnf
 rw[Kh (l:=e.by_) (c:=e.by_.length) ?_]
 ·cases hf:e.by_.find? (·.1==nm)with
  |none=>
   rw[hf]at hP;have hP:R=(mJ,false):=hP;subst hP;conv=>whnf
   exact⟨_,_,rfl,Weak.tup ⟨iB,Weak.refl _,trivial⟩,rfl⟩
  |some p=>
   rw[hf]at hP;obtain⟨pn,⟨k,tn,ts,tl⟩⟩:=p;have hP:R=(.mk k tn ts tl,true):=hP;subst hP;conv=>whnf
   exact⟨_,_,rfl,Weak.tup ⟨Weak.refl _,Weak.refl _,trivial⟩,rfl⟩
 ·rfl
theorem TU :∀(l:List (Bytes×Bool)) (nm:Bytes) (k i:Nat),qy 1 (.str nm) (gF l k) i=some ((l.findIdx? (·.1==nm)).map fun j=>(i+j,((l.find? (·.1==nm)).map fun p=>au.bool p.2).getD .undef))
 |[],nm,k,i=>rfl
 |p::l,nm,k,i=>by
  rw[gF,qy,DJ];cases h:(nm==p.1)
  ·dsimp only
   rw[TU l nm (k+1) (i+1),List.findIdx?_cons,List.find?_cons,show(p.1==nm)=false from by rw[Bool.beq_comm];exact h]
   cases l.findIdx? (·.1==nm)with
   |none=>rfl
   |some j=>simp;omega
  ·dsimp only
   rw[List.findIdx?_cons,List.find?_cons,show(p.1==nm)=true from by rw[Bool.beq_comm];exact h];rfl
def Ki (l:List (Bytes×Bool)) (nm:Bytes):Bool:=((l.find? (·.1==nm)).map (·.2)).getD false
theorem SI {H:Heap} {id c:Nat} {l:List (Bytes×Bool)} (h:H[id]?=some (.map (gF l 0) c)) (nm:Bytes):
  mq 1 (.bool false) false H (.map id) (.str nm)=some (.bool (Ki l nm)):=by
 simp only[mq,lG,h,TU,Option.map_some,yZ];unfold Ki
 have h2:(l.findIdx? (·.1==nm)).isSome=(l.find? (·.1==nm)).isSome:=by
  rw[List.findIdx?_isSome,Bool.eq_iff_iff,List.any_eq_true,List.find?_isSome]
 cases hf:l.find? (·.1==nm)with
 |none=>
  rw[hf]at h2
  cases hg:l.findIdx? (·.1==nm)with
  |none=>rfl
  |some j=>rw[hg]at h2;cases h2
 |some p=>
  rw[hf]at h2
  cases hg:l.findIdx? (·.1==nm)with
  |none=>rw[hg]at h2;cases h2
  |some j=>rfl
def vQ (e:dL) (nm:Bytes):Bool:=if(yg e nm).2 then Ki e.empty nm else true
theorem Nq (F:AJ T) (e:dL) (nm:Bytes):EK T.L 146 [.str nm] e (.bool (vQ e nm)):=by
 have hd:=Ue F e nm;refine EK.of 0 (.bool _) (aG F.X5 (by simp[Vl]) ?_);unfold vQ;generalize yg e nm=q at hd⊢;obtain⟨⟨k,tn,ts,tl⟩,b⟩:=q;conv=>whnf
 refine hd.to (dD (.str _)) (.tup _ (gq.at ⟨aQ _ _,.bool _,trivial⟩)) _ rfl ?_;cases b
 ·conv=>whnf
  exact⟨_,_,rfl,Weak.refl _,rfl⟩
 ·conv=>whnf
  rw[SI (l:=e.empty) (c:=e.empty.length) ?_]
  ·conv=>whnf
   exact⟨_,_,rfl,Weak.refl _,rfl⟩
  ·rfl
end Go.Ag
/- Package alias: spread. -/
namespace Go.Ag
open Go
variable {T : Tab} {L : Lnk}
def jP :TA:=.mk 4 [] [] []
mutual
def bA (e:dL):Nat→TA→Option (List TA)
 |0,_=>none
 |n+1,.mk k nm ns l=>if k=8 then(if vQ e nm=true then some [jP]else bA e n (yg e nm).1)else if k=7 then aZ e n l else some [.mk k nm ns l]
def aZ (e:dL):Nat→List TA→Option (List TA)
 |0,_=>none
 |n+1,[]=>some []
 |n+1,t::l=>match bA e n t,aZ e n l with
  |some xs,some ys=>some (xs ++ys)
  |_,_=>none
end
theorem Weak.lstW {xs ys:List au} {tk:Tok} (hl:xs.length=ys.length) (hk:∀k,(∀x∈xs,x.cells.length=k)→∀y∈ys,y.cells.length=k) (h:ni L (flat xs) (flat ys)):Weak L (.lst xs tk) (.lst ys .none):=fun g v hv=>by
 cases hv with
 |lst a c k b o _ vs _ ha hf hk' hc ht hr=>
  rw[hl];exact .lst a c k b o ys vs .none (fun hy=>ha (fun e=>hy (by subst e;exact List.eq_nil_of_length_eq_zero hl.symm))) hf (hk k hk') (by omega) trivial (hr.weak h)
theorem RO {t1 t2 tk:Tok}:Weak L (.lst [.agg [.int .i64 4,.str [],.lst [] t1,.lst [] t2]] tk) (.lst (TA.avs [jP]) .none):=by
 have e:TA.avs [jP]=[.agg [.int .i64 4,.str [],.lst [] .none,.lst [] .none]]:=rfl;rw[e];refine Weak.lstW rfl (fun k h y hy=>?_) ⟨Weak.refl _,Weak.refl _,Weak.tok _ _,Weak.tok _ _,trivial⟩;simp only[List.mem_singleton]at hy;subst hy;have:=h _ (List.mem_singleton.2 rfl);exact this
theorem q9 :∀m:List TA,m.length≤wtL m
 |[]=>by simp
 |t::m=>by
  have:=q9 m;rw[wtL,List.length_cons];omega
theorem Js (F:AJ T) (e:dL) (hE:∀p∈e.by_,wtT p.2≤2^40):∀(n:Nat) (t:TA) (ys:List TA),bA e n t=some ys→ys.length≤2^30→wtT t≤2^40→EK T.L 226 [t.av] e (.lst (TA.avs ys) .none):=
  fun n=>Nat.strongRecOn n fun n ihs=>by
   cases n with
   |zero=>intro t ys h;rw[bA]at h;cases h
   |succ n=>
    intro t ys h hlen hwt;have ih:=ihs n (Nat.lt_succ_self n);obtain⟨k,nm,ns,l⟩:=t;rw[wtT]at hwt;have hll:=q9 l;rw[bA]at h;refine EK.of 1 (.lst _ _ trivial (aY 3 ys)) (aG F.Xy (by simp[UN]) ?_);conv=>whnf
    cases h8:(k==8)
    · rw[if_neg (by simpa using h8)]at h
      conv=>whnf
      cases h7:(k==7)
      · rw[if_neg (by simpa using h7)]at h
        cases h;conv=>whnf
        exact⟨_,_,rfl,Weak.tok _ _,rfl⟩
      · rw[if_pos (by simpa using h7)]at h
        conv=>whnf
        intro I hI hG
        have key:∀(d j m:Nat) (dn rest:List TA) (e2:Env),l.length-j=d→j≤l.length→m≤n→aZ e m (l.drop j)=some rest→ys=dn ++rest→
            I (gB e2 [(0,.ptr 2 0),(5,.lst (TA.avs dn) (bK (TA.avs dn).length 3)),(30,.lst (TA.avs l) .none),(31,.int .i64 l.length),(32,.int .i64 j)]) (iU e ++[bC (TA.avs dn).length 175,bf (.mk k nm ns l)]):=by
          intro d
          induction d with
          |zero=>
            intro j m dn rest e2 hd hj hm hsp hys;have hjl:j=l.length:=by omega
            rw[hjl,List.drop_length]at hsp
            have hrest:rest=[]:=by
              cases m with
              |zero=>rw[aZ]at hsp;cases hsp
              |succ m=>rw[aZ]at hsp;cases hsp;rfl
            subst hrest;rw[List.append_nil]at hys;subst hys;apply hI;conv=>whnf
            rw[bU (by omega)];conv=>whnf
            exact⟨_,_,rfl,Weak.tok _ _,rfl⟩
          |succ d ihd=>
            intro j m dn rest e2 hd hj hm hsp hys;have hjl:j<l.length:=by omega
            rw[List.drop_eq_getElem_cons hjl]at hsp
            obtain⟨m',rfl⟩:∃m',m=m'+1:=by
              cases m with
              |zero=>rw[aZ]at hsp;cases hsp
              |succ m'=>exact⟨m',rfl⟩
            rw[aZ]at hsp;have hget:=mP hjl
            cases hx:bA e m' l[j]with
            |none=>rw[hx]at hsp;cases hsp
            |some xs=>
              cases hr:aZ e m' (l.drop (j+1))with
              |none=>rw[hx,hr]at hsp;cases hsp
              |some rest'=>
                rw[hx,hr]at hsp;have hrest:xs ++rest'=rest:=Option.some.inj hsp
                have hlx:dn.length+xs.length+rest'.length≤2^30:=by
                  rw[hys,←hrest]at hlen;simp only[List.length_append]at hlen;omega
                have hc:=ihs m' (by omega) l[j] xs hx (by omega) (by have:=iP (List.getElem_mem hjl);omega);have hnext:=fun e2=>ihd (j+1) m' (dn ++xs) rest' e2 (by omega) hjl (by omega) hr (by rw[hys,←hrest,List.append_assoc])
                generalize l[j]=v at hget hc;obtain⟨vk,vn,vs,vl⟩:=v;have hlow:∀x∈TA.avs (dn ++xs),Low 5 x:=aY 5 _;rw[jC]at hnext hlow;have hld:(TA.avs dn).length=dn.length:=bY dn;have hlxs:(TA.avs xs).length=xs.length:=bY xs;have hsd:=gL dn;have hsx:=gL xs;apply hI;conv=>whnf
                rw[dz hjl];conv=>whnf
                refine step_elem (Int.natCast_nonneg _) hget rfl ?_;conv=>whnf
                refine hc.to (dD (aQ _ _)) (.lst _ _ trivial (aY 3 xs)) _ rfl ?_;have hlE:eX 5 (iU e):=⟨dY 5 _ _,fA 5 _ _,dH ⟨.map _ (by decide:0<5),.map _ (by decide:1<5),trivial⟩,trivial⟩;generalize hDN:TA.avs dn=DN at hnext hlow hld hsd;generalize hXS:TA.avs xs=XS at hnext hlow hlxs hsx;conv=>whnf
                have fin:∀(e3:Env) (H3:Heap),H3.take 5=iU e ++[bC (DN ++XS).length 175,bf (.mk k nm ns l)]→fC e3 [(0,.ptr 2 0),(5,.lst (DN ++XS) (bK (DN ++XS).length 3)),(30,.lst (TA.avs l) .none),(31,.int .i64 l.length),(32,.int .i64 (j+1:Nat))]→I e3 H3:=fun e3 H3 h1 h2=>
                  hG.keep _ (iU e ++[bC (DN ++XS).length 175,bf (.mk k nm ns l)]) (Nat.le_refl 5) h1 h2
                    ⟨.ptr _ _ (by decide:2<5),.lst _ _ (dO (by decide:3<5)) hlow,.lst _ _ trivial (aY 5 l),.int _ _,.int _ _,trivial⟩
                    ⟨hlE.1,hlE.2.1,hlE.2.2.1,bG _ _ _,aI (Nat.zero_le _) (cK _),trivial⟩ (hnext _)
                cases XS with
                |nil=>
                  refine Vr hsd (by omega) (by omega) ?_;conv=>whnf
                  rw[List.append_nil]at fin;exact fin _ _ rfl ⟨rfl,rfl,rfl,rfl,add1 (by omega),trivial⟩
                |cons y YS=>
                  refine dS (id:=3) hsd hsx (by simp at*;omega) (by simp at*;omega) (by simp) rfl ?_;conv=>whnf
                  exact fin _ _ rfl ⟨rfl,rfl,rfl,rfl,add1 (by omega),trivial⟩
        exact inv_of [(0,.ptr 2 0),(5,.lst [] .nil),(30,.lst (TA.avs l) .none),(31,.int .i64 l.length),(32,.int .i64 0)] ⟨rfl,rfl,rfl,by show au.int .i64 ((TA.avs l).length:Nat)=_;rw[bY],rfl,trivial⟩ (key l.length 0 n [] ys _ rfl (Nat.zero_le _) (Nat.le_refl _) h rfl)
    · rw[if_pos (by simpa using h8)]at h
      have hem:=Nq F e nm;conv=>whnf
      refine hem.to (dD (.str _)) (.bool _) _ rfl ?_;cases hb:vQ e nm
      · rw[if_neg (by simp[hb])]at h
        have hc:=ih _ ys h hlen
        have hd2:(yg e nm).2=true:=by
          unfold vQ at hb;cases hq:(yg e nm).2
          · rw[hq]at hb;cases hb
          · rfl
        have hdef:∃p:Bytes×TA,e.by_.find? (·.1==nm)=some p∧(yg e nm).1=p.2:=by
          unfold yg Ug at hd2⊢
          cases hf:e.by_.find? (·.1==nm)with
          |none=>rw[hf]at hd2;cases hd2
          |some p=>exact⟨p,rfl,rfl⟩
        obtain⟨p,hf,hp1⟩:=hdef;have hc:=hc (by rw[hp1];exact hE p (List.mem_of_find?_eq_some hf));rw[hp1]at hc;have hmem:nm∈e.by_.map (·.1):=List.mem_map.2 ⟨p,List.mem_of_find?_eq_some hf,by simpa using List.find?_some (p:=fun q:Bytes×TA=>q.1==nm) hf⟩;have hlk:dF e.by_ nm=p.2:=by unfold dF;rw[hf];rfl
        conv=>whnf
        rw[Ij (x:=e.by_) (c:=e.by_.length) ?_ hmem]
        · rw[hlk]
          obtain⟨pn,⟨pk,pm,ps,pl⟩⟩:=p;conv=>whnf
          refine hc.to (dD (aQ _ _)) (.lst _ _ trivial (aY 3 ys)) _ rfl ?_;conv=>whnf
          exact⟨_,_,rfl,Weak.refl _,rfl⟩
        · rfl
      · rw[if_pos hb]at h
        cases h;conv=>whnf
        refine⟨_,_,rfl,?_,rfl⟩;exact RO
end Go.Ag
/- Package alias: whole, Heads. -/
namespace Go.Ag
open Go
variable {T : Tab} {L : Lnk}
theorem LZ (F:AJ T) (e:dL) (hE:∀p∈e.by_,wtT p.2≤2^40) (n:Nat) (t:TA) (ys:List TA) (h:bA e n (aN t)=some ys) (hl:ys.length≤2^30) (ht:okN t) (hw:wtT (aN t)≤2^40) (hj:okN (.mk 7 [] [] ys)):
  EK T.L 188 [t.av] e (xE ys).av:=by
 have h1:=wT F.toAA t ht;have h2:=Js F e hE n (aN t) ys h hl hw;have h3:=RI F.toAA ys hj;generalize aN t=u at h1 h2;generalize xE ys=v at h3⊢;obtain⟨uk,un,us,ul⟩:=u;obtain⟨vk,vn,vs,vl⟩:=v;obtain⟨k,nm,ns,l⟩:=t;refine EK.of 0 (aQ _ _) (aG F.XK (by simp[U4]) ?_);conv=>whnf
 refine h1.to ?_;conv=>whnf
 refine h2.to (dD (aQ _ _)) (.lst _ _ trivial (aY 3 ys)) _ rfl ?_;conv=>whnf
 refine h3.to ?_;conv=>whnf
 exact⟨_,_,rfl,Weak.refl _,rfl⟩
def Iy (u:TA):List TA:=if u.kind=7 then u.l else[u]
theorem Nf (F:AJ T) (e:dL) (hE:∀p∈e.by_,wtT p.2≤2^40) (n:Nat) (t:TA) (ys:List TA) (h:bA e n (aN t)=some ys) (hl:ys.length≤2^30) (ht:okN t) (hw:wtT (aN t)≤2^40) (hj:okN (.mk 7 [] [] ys)):
  EK T.L 149 [t.av] e (.lst (TA.avs (Iy (xE ys))) .none):=by
 have h1:=LZ F e hE n t ys h hl ht hw hj;generalize xE ys=v at h1⊢;obtain⟨vk,vn,vs,vl⟩:=v;obtain⟨k,nm,ns,l⟩:=t;refine EK.of 0 (.lst _ _ trivial (aY 3 _)) (aG F.X3 (by simp[Vj]) ?_);conv=>whnf
 refine h1.to (dD (aQ _ _)) (aQ _ _) _ rfl ?_;conv=>whnf
 unfold Iy;cases hk:(vk==7)
 ·rw[if_neg (by simpa[TA.kind]using hk)]
  conv=>whnf
  exact⟨_,_,rfl,Weak.tok _ _,rfl⟩
 ·rw[if_pos (by simpa[TA.kind]using hk)]
  conv=>whnf
  exact⟨_,_,rfl,Weak.tok _ _,rfl⟩
end Go.Ag
/- Package alias: walk, bare, comes. -/
namespace Go.Ag
open Go
variable {T : Tab} {L : Lnk}
mutual
def iV :TA→List Bytes
 |.mk k nm ns l=>if k=8 then[nm]else if k=7 then sU l else[]
def sU :List TA→List Bytes
 |[]=>[]
 |t::l=>iV t ++sU l
end
def iq {σ α:Type} (st:σ→α→Option (Bool×σ)):σ→List α→Option (Bool×σ)
 |s,[]=>some (true,s)
 |s,r::rs=>match st s r with
  |none=>none
  |some (false,s')=>some (false,s')
  |some (true,s')=>iq st s' rs
theorem zh {σ α:Type} (st:σ→α→Option (Bool×σ)):∀(a b:List α) (s:σ),iq st s (a ++b)=match iq st s a with
  |none=>none
  |some (false,s')=>some (false,s')
  |some (true,s')=>iq st s' b
 |[],b,s=>rfl
 |r::a,b,s=>by
  rw[List.cons_append,iq,iq]
  cases st s r with
  |none=>rfl
  |some q=>
   obtain⟨c,s'⟩:=q;cases c
   ·rfl
   ·exact zh st a b s'
theorem PN {σ:Type} (QS:T.has 258 O8) (p:σ→Nat→aU) (r:rQ) (hlow:∀s k,k<10→bI 11 (p s k)) (hr:∀i,Low 11 (r.e i)) (BB BF:σ→Heap)
  (hB:∀s,BB s=[p s 0,p s 1,p s 2,p s 3,p s 4,p s 5,p s 6,p s 7,p s 8,p s 9,.loop r .ready]) (hF:∀s,(BF s).length=11∧∀o∈BF s,bI 11 o) (st:σ→Bytes→Option (Bool×σ))
  (hy:∀s r b s',st s r=some (b,s')→l8 T.L 10 [.str r] (BB s) (.ret (.bool b)) (if b then BB s' else BF s')):
  ∀(m:Nat) (t:TA),wtT t<m→wtT t≤2^40→∀s b s',iq st s (iV t)=some (b,s')→bX T.L 258 [t.av,.yld 10] (BB s) (.bool b) (if b then BB s' else BF s'):=by
 have DY:∀s,∀o∈BB s,bI 11 o:=fun s=>by
  rw[hB];exact eX.at ⟨hlow s 0 (by decide),hlow s 1 (by decide),hlow s 2 (by decide),hlow s 3 (by decide),hlow s 4 (by decide),hlow s 5 (by decide),hlow s 6 (by decide),hlow s 7 (by decide),hlow s 8 (by decide),hlow s 9 (by decide),hr,trivial⟩
 have gT:∀s,(BB s).length=11:=fun s=>by rw[hB];rfl
 have hEl:∀b s,(if b=true then BB s else BF s).length=11∧∀o∈(if b=true then BB s else BF s),bI 11 o:=fun b s=>by
  cases b
  ·exact hF s
  ·exact⟨gT s,DY s⟩
 intro m
 induction m with
 |zero=>intro t h;omega
 |succ m ih=>
  intro t hlt hwt s b s' oQ;obtain⟨k,nm,ns,l⟩:=t;rw[iV]at oQ;have hL0:=fun b s=>(hEl b s).1
  refine bX.of 0 (by rw[(hEl b s').1,gT]) (.bool _) (by rw[gT];exact(hEl b s').2) (aC.mono (Q:=fun r H'=>∃J,r=.ret (.bool b)∧H'=(if b=true then BB s' else BF s') ++J) ?_ fun r H' ⟨J,e1,e2⟩=>⟨_,_,J,e1,Weak.refl _,e2,rfl,fun i x y h1 h2=>by rw[h1]at h2;cases h2;exact bJ.refl x⟩);rw[List.replicate_zero,List.append_nil];obtain⟨fin,hfin⟩:∃fin,(if b=true then BB s' else BF s')=fin:=⟨_,rfl⟩;rw[hfin];refine aG QS (by simp[O8]) ?_;rw[hB];conv=>whnf
  cases h8:(k==8)
  ·rw[if_neg (by simpa using h8)]at oQ
   conv=>whnf
   cases h7:(k==7)
   ·rw[if_neg (by simpa using h7)]at oQ
    cases oQ;rw[if_pos rfl,hB]at hfin;subst hfin;conv=>whnf
    exact⟨_,rfl,rfl⟩
   ·rw[if_pos (by simpa using h7)]at oQ
    conv=>whnf
    intro I hI hG
    have key:∀(d j:Nat) (s1:σ) (e:Env),l.length-j=d→j≤l.length→iq st s1 (sU (l.drop j))=some (b,s')→
      I (gB e [(1,.yld 10),(4,.bool false),(18,.lst (TA.avs l) .none),(19,.int .i64 l.length),(20,.int .i64 j)]) (BB s1 ++[bf (.mk k nm ns l)]):=by
     intro d
     induction d with
     |zero=>
      intro j s1 e hd hj hf;have hjl:j=l.length:=by omega
      rw[hjl,List.drop_length,sU]at hf;cases hf;rw[if_pos rfl]at hfin;subst hfin;apply hI;rw[hB];conv=>whnf
      rw[bU (by omega)];conv=>whnf
      exact⟨_,rfl,rfl⟩
     |succ d ihd=>
      intro j s1 e hd hj hf;have hjl:j<l.length:=by omega
      rw[List.drop_eq_getElem_cons hjl,sU,zh]at hf;have hget:=mP hjl;have hmem:=List.getElem_mem hjl;have hwl:=iP hmem;rw[wtT]at hlt hwt;have hll:=q9 l
      cases hq:iq st s1 (iV l[j])with
      |none=>rw[hq]at hf;cases hf
      |some q=>
       obtain⟨c,s2⟩:=q;rw[hq]at hf;have hc:=ih l[j] (by omega) (by omega) s1 c s2 hq;have hnext:=fun e=>ihd (j+1) s2 e (by omega) hjl
       generalize l[j]=v at hget hc;have hlv:∀x∈[v.av,.yld 10],Low (BB s1).length x:=by rw[gT];exact Qs (aQ _ _) (.yld _ (by decide))
       apply hI;rw[hB];obtain⟨vk,vn,vs,vl⟩:=v;conv=>whnf
       rw[dz hjl];conv=>whnf
       refine step_elem (Int.natCast_nonneg _) hget rfl ?_;conv=>whnf
       refine hc.to (by rw[hL0,gT]) hlv (by rw[gT];exact DY _) (.bool _) (by rw[gT];exact(hEl c s2).2) [bf (.mk k nm ns l),.cells [.int .i64 vk,.str vn,.lst (aO vs) .none,.lst (TA.avs vl) .none] 175] (by rw[hB];rfl) ?_;cases c
       ·cases hf
        conv=>whnf
        rw[show(if false=true then BB s' else BF s')=fin from hfin];exact⟨_,rfl,rfl⟩
       ·have hf:iq st s2 (sU (l.drop (j+1)))=some (b,s'):=hf
        conv=>whnf
        rw[if_pos rfl,hB]
        refine hG.keep [(1,.yld 10),(4,.bool false),(18,.lst (TA.avs l) .none),(19,.int .i64 l.length),(20,.int .i64 (j+1:Nat))] (BB s2 ++[bf (.mk k nm ns l)]) (by rw[hB];exact Nat.le_refl 12) (by rw[hB];rfl) ⟨rfl,rfl,rfl,rfl,add1 (by omega),trivial⟩
         (by rw[List.length_append,gT];exact⟨.yld _ (by decide:10<12),.bool _,.lst _ _ trivial (aY _ l),.int _ _,.int _ _,trivial⟩)
         (by rw[List.length_append,gT,hB];exact⟨aI (by decide:11≤12) (hlow _ 0 (by decide)),aI (by decide:11≤12) (hlow _ 1 (by decide)),aI (by decide:11≤12) (hlow _ 2 (by decide)),aI (by decide:11≤12) (hlow _ 3 (by decide)),aI (by decide:11≤12) (hlow _ 4 (by decide)),aI (by decide:11≤12) (hlow _ 5 (by decide)),aI (by decide:11≤12) (hlow _ 6 (by decide)),aI (by decide:11≤12) (hlow _ 7 (by decide)),aI (by decide:11≤12) (hlow _ 8 (by decide)),aI (by decide:11≤12) (hlow _ 9 (by decide)),aI (by decide:11≤12) (o:=.loop r .ready) hr,aI (Nat.zero_le _) (cK _),trivial⟩) (hnext _ hf)
    have h0:=key l.length 0 s;rw[hB]at h0;exact inv_of [(1,.yld 10),(4,.bool false),(18,.lst (TA.avs l) .none),(19,.int .i64 l.length),(20,.int .i64 0)] ⟨rfl,rfl,rfl,by show au.int .i64 ((TA.avs l).length:Nat)=_;rw[bY],rfl,trivial⟩ (h0 _ rfl (Nat.zero_le _) oQ)
  ·rw[if_pos (by simpa using h8),iq]at oQ
   cases hst:st s nm with
   |none=>rw[hst]at oQ;cases oQ
   |some q=>
    obtain⟨c,s2⟩:=q;rw[hst]at oQ;have hyy:=hy s nm c s2 hst
    have hbs:b=c∧s'=s2:=by
     cases c
     ·cases oQ;exact⟨rfl,rfl⟩
     ·cases oQ;exact⟨rfl,rfl⟩
    obtain⟨rfl,rfl⟩:=hbs;rw[hfin]at hyy;conv=>whnf
    refine hyy.to (by rw[gT];decide) (by rw[gT,←hfin,hL0]) (by rw[gT];exact dD (.str _)) (by rw[gT];exact DY _) (.bool _) (by rw[gT,←hfin];exact(hEl b s').2) [bf (.mk k nm ns l)] (by rw[hB];rfl) ?_;conv=>whnf
    exact⟨_,rfl,rfl⟩
end Go.Ag
/- Package alias: bare, comes. -/
namespace Go.Ag
open Go
variable {T : Tab} {L : Lnk}
structure zL (T:Tab):Prop extends AJ T where
 QV:T.has 225 Pf
 KF:T.has 257 O9
 QS:T.has 258 O8
 XL:T.has 187 U5
 X6:T.has 144 Vm
theorem qw {n:Nat} {e:Env} {d:Option Nat} {v:au} (he:∀i,Low n (e i)) (hv:Low n v):∀i,Low n (bg e d v i):=fun i=>by
 cases d with
 |none=>exact he i
 |some j=>simp only[bg,upd];split;exact hv;exact he i
theorem SG {n:Nat} {args:List au} (h:∀x∈args,Low n x):∀i,Low n (args.getD i .undef):=fun i=>by
 rw[List.getD_eq_getElem?_getD]
 cases hx:args[i]? with
 |none=>exact .undef
 |some x=>exact h x (List.mem_of_getElem? hx)
theorem Rx (QV:T.has 225 Pf) (t:TA) (H:Heap):aC T.L 225 [t.av] H fun r H'=>r=.ret (.fn (.func 257) [] [.ptr H.length 0])∧H'=H ++[bf t]:=by
 refine aG QV (by simp[Pf]) ?_;obtain⟨k,nm,ns,l⟩:=t;conv=>whnf
 exact⟨rfl,rfl⟩
theorem bX.E5 {f:Nat} {args args':List au} {H0 H1:Heap} {y:au} (h:bX L f args' H0 y H1) (hw:ni L args args'):bX L f args H0 y H1:=fun g w vs hs hr=>h g w vs hs (hr.weak hw)
theorem NH (KF:T.has 257 O9) (t:TA) (id:Nat) (H:Heap) {b:Bool} {H1:Heap} (hid:H[id]?=some (bf t)) (h:bX T.L 258 [t.av,.yld 10] H (.bool b) H1):aC T.L 257 [.yld 10,.ptr id 0] H fun r H'=>r=.ret (.tup [])∧H'=H1:=by
 refine aG KF (by simp[O9]) ?_;obtain⟨k,nm,ns,l⟩:=t;have hl:=SQ (k:=4) hid rfl;conv=>whnf
 refine nD hl ?_;conv=>whnf
 refine aC.to1 h ?_;conv=>whnf
 exact⟨rfl,rfl⟩
def rC :List Bytes→Nat→List (au×au×Nat)
 |[],_=>[]
 |p::l,k=>(.str p,.bool true,k)::rC l (k+1)
theorem zm :∀(l:List Bytes) (p:Bytes) (k:Nat),rC (l ++[p]) k=rC l k ++[(.str p,.bool true,k+l.length)]
 |[],p,k=>rfl
 |q::l,p,k=>by
  rw[List.cons_append,rC,zm l p (k+1),rC,List.cons_append,List.length_cons,show k+1+l.length=k+(l.length+1)from by omega]
theorem wK (n:Nat):∀(l:List Bytes) (k:Nat),∀e∈rC l k,Low n e.1∧Low n e.2.1
 |[],k,e,h=>by cases h
 |p::l,k,e,h=>by
  rcases List.mem_cons.1 h with rfl|h
  ·exact⟨.str _,.bool _⟩
  ·exact wK n l (k+1) e h
theorem TT :∀(l:List Bytes) (nm:Bytes) (k i:Nat),∃j,qy 1 (.str nm) (rC l k) i=some (if l.contains nm then some (j,.bool true)else none)
 |[],nm,k,i=>⟨0,rfl⟩
 |p::l,nm,k,i=>by
  rw[rC,qy,DJ,List.contains_cons];cases h:(nm==p)
  ·obtain⟨j,hj⟩:=TT l nm (k+1) (i+1)
   exact⟨j,by dsimp only;rw[hj,Bool.false_or]⟩
  ·exact⟨i,by dsimp only;rw[Bool.true_or];rfl⟩
theorem Qt {H:Heap} {id c:Nat} {l:List Bytes} (h:H[id]?=some (.map (rC l 0) c)) (nm:Bytes):
  mq 1 (.bool false) false H (.map id) (.str nm)=some (.bool (l.contains nm)):=by
 obtain⟨j,hj⟩:=TT l nm 0 0;simp only[mq,lG,h,hj,Option.map_some,yZ];cases l.contains nm<;>rfl
theorem Sl {H:Heap} {id c:Nat} {l:List Bytes} {nm:Bytes} (h:H[id]?=some (.map (rC l 0) c)) (hc:c=l.length) (hn:l.contains nm=false):
  yO 1 H (.map id) (.str nm) (.bool true)=some (H.set id (.map (rC (l ++[nm]) 0) (l ++[nm]).length)):=by
 obtain⟨j,hj⟩:=TT l nm 0 0;rw[hn]at hj;subst hc;simp only[yO,h,hj];rw[zm,List.length_append,Nat.zero_add];rfl
theorem WH {H:Heap} {id c:Nat} {l:List (Bytes×TA)} (h:H[id]?=some (.map (cu l 0) c)) (nm:Bytes):
  ∃(k:Int) (tn:Bytes) (xs ys:List au) (tk:Tok),mq 1 (.agg [.int .i64 0,.str [],.lst [] .nil,.lst [] .nil]) false H (.map id) (.str nm)=some (.agg [.int .i64 k,.str tn,.lst xs tk,.lst ys tk])∧(∀L:Lnk,Weak L (.agg [.int .i64 k,.str tn,.lst xs tk,.lst ys tk]) (dF l nm).av)∧∀n,Low n (.agg [.int .i64 k,.str tn,.lst xs tk,.lst ys tk]):=by
 simp only[mq,lG,h,Gh,Option.map_some,yZ]
 have h2:(l.findIdx? (·.1==nm)).isSome=(l.find? (·.1==nm)).isSome:=by
  rw[List.findIdx?_isSome,Bool.eq_iff_iff,List.any_eq_true,List.find?_isSome]
 unfold dF
 cases hf:l.find? (·.1==nm)with
 |none=>
  rw[hf]at h2
  cases hg:l.findIdx? (·.1==nm)with
  |none=>exact⟨0,[],[],[],.nil,rfl,fun L=>iB,fun n=>.agg _ (gq.at ⟨.int _ _,.str _,.lst _ _ trivial fK,.lst _ _ trivial fK,trivial⟩)⟩
  |some j=>rw[hg]at h2;cases h2
 |some p=>
  rw[hf]at h2
  cases hg:l.findIdx? (·.1==nm)with
  |none=>rw[hg]at h2;cases h2
  |some j=>obtain⟨pn,⟨pk,pm,ps,pl⟩⟩:=p;exact⟨_,_,_,_,_,rfl,fun L=>Weak.refl _,fun n=>aQ n (.mk pk pm ps pl)⟩
def jS (rec:TA→List Bytes→Option (Bool×List Bytes)) (by_:List (Bytes×TA)) (nm:Bytes) (seen:List Bytes) (r:Bytes):Option (Bool×List Bytes):=
 if r==nm then some (false,seen)else if seen.contains r then some (true,seen)else match rec (dF by_ r) (seen ++[r])with
  |none=>none
  |some (b,s)=>some (!b,s)
def gY (by_:List (Bytes×TA)) (nm:Bytes):Nat→TA→List Bytes→Option (Bool×List Bytes)
 |0,_,_=>none
 |n+1,t,seen=>(iq (jS (gY by_ nm n) by_ nm) seen (iV t)).map fun q=>(!q.1,q.2)
def cheap (e:dL) (seen:List Bytes):Heap:=iU e ++[.map (rC seen 0) seen.length]
theorem Ad (e:dL) (s:List Bytes):∀o∈cheap e s,bI 4 o:=
 eX.at ⟨dY 4 _ _,fA 4 _ _,dH ⟨.map _ (by decide:0<4),.map _ (by decide:1<4),trivial⟩,wK 4 _ _,trivial⟩
def cB (e:dL) (nm:Bytes) (t:TA) (s:List Bytes):Nat→aU
 |0=>.map (cu e.by_ 0) e.by_.length
 |1=>.map (gF e.empty 0) e.empty.length
 |2=>.cells [.map 0,.map 1] 234
 |3=>.map (rC s 0) s.length
 |4=>.cells [.ptr 2 0] 179
 |5=>.cells [.str nm] 10
 |6=>bf t
 |7=>.cells [.map 3] 232
 |8=>.cells [.bool false] 5
 |_=>bf t
theorem Ep (F:zL T) (e:dL) (hE:∀p∈e.by_,wtT p.2≤2^40) (nm:Bytes):∀(n:Nat) (t:TA) (seen:List Bytes) (b:Bool) (s':List Bytes),gY e.by_ nm n t seen=some (b,s')→wtT t≤2^40→
  bX T.L 187 [.ptr 2 0,.str nm,t.av,.map 3] (cheap e seen) (.bool b) (cheap e s')
 |0=>fun t seen b s' h=>by rw[gY]at h;cases h
 |n+1=>fun t seen b s' h hwt=>by
  have ih:=Ep F e hE nm n;rw[gY,Option.map_eq_some_iff]at h;obtain⟨⟨c,s1⟩,oQ,h2⟩:=h;have hb:(!c)=b:=congrArg Prod.fst h2;have hs1:s1=s':=congrArg Prod.snd h2;subst hb hs1;refine bX.of 0 rfl (.bool _) (Ad e s1) (aC.mono (Q:=fun r H'=>∃J,r=.ret (.bool (!c))∧H'=cheap e s1 ++J) ?_ fun r H' ⟨J,e1,e2⟩=>⟨_,_,J,e1,Weak.refl _,e2,rfl,fun i x y h1 h2=>by rw[h1]at h2;cases h2;exact bJ.refl x⟩);refine aG F.XL (by simp[U5]) ?_;have hbare:=Rx F.QV t;have KF:=F.KF;have F8:=fun p r hlow hr BB BF hB hF st hy=>PN (T:=T) (σ:=List Bytes) F.QS p r hlow hr BB BF hB hF st hy (wtT t+1) t (Nat.lt_succ_self _) hwt seen c s1
  obtain⟨k,tn,ns,l⟩:=t;conv=>whnf
  refine(hbare _).to1 ?_;conv=>whnf
  intro r hr hyp
  have hlr:∀i,Low 11 (r.e i):=by
   rw[hr];refine qw ?_ (.fn _ _ _ fK (dD (.ptr _ _ (by decide:9<11))));refine qw ?_ (aQ 11 (.mk k tn ns l));refine qw ?_ (.ptr _ _ (by decide:8<11));refine qw ?_ (.ptr _ _ (by decide:7<11));refine qw ?_ (.ptr _ _ (by decide:6<11));refine qw ?_ (.ptr _ _ (by decide:5<11));refine qw ?_ (.ptr _ _ (by decide:4<11));exact SG (gq.at ⟨.ptr _ _ (by decide:2<11),.str _,aQ 11 (.mk k tn ns l),.map _ (by decide:3<11),trivial⟩)
  have hcl:∀i s,i<10→bI 11 (cB e nm (.mk k tn ns l) s i):=fun i s hi=>by
   match i,hi with
   |0,_=>exact dY 11 _ _
   |1,_=>exact fA 11 _ _
   |2,_=>exact dH ⟨.map _ (by decide:0<11),.map _ (by decide:1<11),trivial⟩
   |3,_=>exact wK 11 _ _
   |4,_=>exact dH ⟨.ptr _ _ (by decide:2<11),trivial⟩
   |5,_=>exact dH ⟨.str _,trivial⟩
   |6,_=>exact(show bI 11 (bf (.mk k tn ns l))from aI (Nat.zero_le _) (cK _))
   |7,_=>exact dH ⟨.map _ (by decide:3<11),trivial⟩
   |8,_=>exact dH ⟨.bool _,trivial⟩
   |9,_=>exact(show bI 11 (bf (.mk k tn ns l))from aI (Nat.zero_le _) (cK _))
   |i+10,h=>omega
  obtain⟨BB,hBB⟩:∃BB:List Bytes→Heap,BB=fun s=>[cB e nm (.mk k tn ns l) s 0,cB e nm (.mk k tn ns l) s 1,cB e nm (.mk k tn ns l) s 2,cB e nm (.mk k tn ns l) s 3,cB e nm (.mk k tn ns l) s 4,cB e nm (.mk k tn ns l) s 5,cB e nm (.mk k tn ns l) s 6,cB e nm (.mk k tn ns l) s 7,cB e nm (.mk k tn ns l) s 8,cB e nm (.mk k tn ns l) s 9,.loop r .ready]:=⟨_,rfl⟩
  obtain⟨BF,hBF⟩:∃BF:List Bytes→Heap,BF=fun s=>[cB e nm (.mk k tn ns l) s 0,cB e nm (.mk k tn ns l) s 1,cB e nm (.mk k tn ns l) s 2,cB e nm (.mk k tn ns l) s 3,cB e nm (.mk k tn ns l) s 4,cB e nm (.mk k tn ns l) s 5,cB e nm (.mk k tn ns l) s 6,cB e nm (.mk k tn ns l) s 7,.cells [.bool true] 5,cB e nm (.mk k tn ns l) s 9,.loop r .ret]:=⟨_,rfl⟩
  have hFl:∀s,(BF s).length=11∧∀o∈BF s,bI 11 o:=fun s=>by
   rw[hBF];exact⟨rfl,eX.at ⟨hcl 0 s (by decide),hcl 1 s (by decide),hcl 2 s (by decide),hcl 3 s (by decide),hcl 4 s (by decide),hcl 5 s (by decide),hcl 6 s (by decide),hcl 7 s (by decide),dH ⟨.bool _,trivial⟩,hcl 9 s (by decide),hlr,trivial⟩⟩
  have hBl:∀s,(BB s).length=11∧∀o∈BB s,bI 11 o:=fun s=>by
   rw[hBB];exact⟨rfl,eX.at ⟨hcl 0 s (by decide),hcl 1 s (by decide),hcl 2 s (by decide),hcl 3 s (by decide),hcl 4 s (by decide),hcl 5 s (by decide),hcl 6 s (by decide),hcl 7 s (by decide),hcl 8 s (by decide),hcl 9 s (by decide),hlr,trivial⟩⟩
  have Te:∀s ref b s',jS (gY e.by_ nm n) e.by_ nm s ref=some (b,s')→l8 T.L 10 [.str ref] (BB s) (.ret (.bool b)) (if b then BB s' else BF s'):=fun s ref b s' hst=>by
   have hEl:(if b=true then BB s' else BF s').length=11∧∀o∈(if b=true then BB s' else BF s'),bI 11 o:=by
    cases b
    ·exact hFl s'
    ·exact hBl s'
   refine l8.of (by rw[hEl.1,(hBl s).1]) (.bool _) (by rw[(hBl s).1];exact hEl.2) ((hyp [.str ref] (BB s) (fun r' H'=>r'=.ret (.bool b)∧∃J,H'=(if b=true then BB s' else BF s') ++J) rfl (by rw[hBB];rfl) ?_).mono fun r' H' ⟨e2,J,e3⟩=>⟨_,J,by rw[e2];exact Weak.refl _,e3,rfl,fun i x y h1 h2=>by rw[h1]at h2;cases h2;exact bJ.refl x⟩);obtain⟨fin,hfin⟩:∃fin,(if b=true then BB s' else BF s')=fin:=⟨_,rfl⟩;rw[hfin];unfold jS at hst;rw[hBB];conv=>whnf
   refine⟨rfl,?_⟩;conv=>whnf
   cases h1:(ref==nm)
   ·rw[if_neg (by rw[h1];simp)]at hst
    conv=>whnf
    rw[Qt (l:=s) (c:=s.length) rfl];conv=>whnf
    cases h2:s.contains ref
    ·rw[if_neg (by rw[h2];simp)]at hst
     conv=>whnf
     rw[Sl (l:=s) (c:=s.length) rfl rfl h2];conv=>whnf
     obtain⟨xk,xn,xs,ys,xt,hx1,hx2,hx3⟩:=WH (H:=cheap e (s ++[ref]) ++[.cells [.ptr 2 0] 179,.cells [.str nm] 10,bf (.mk k tn ns l),.cells [.map 3] 232,.cells [.bool false] 5,bf (.mk k tn ns l),.loop r .busy]) (id:=0) (l:=e.by_) (c:=e.by_.length) rfl ref;refine iO hx1 ?_;conv=>whnf
     cases hq:gY e.by_ nm n (dF e.by_ ref) (s ++[ref])with
     |none=>rw[hq]at hst;cases hst
     |some q=>
      obtain⟨c2,s2⟩:=q;rw[hq]at hst
      have hwl:wtT (dF e.by_ ref)≤2^40:=by
       unfold dF
       cases hf:e.by_.find? (·.1==ref)with
       |none=>decide
       |some p=>exact hE p (List.mem_of_find?_eq_some hf)
      have hcall:=(ih _ _ _ _ hq hwl).E5 (args:=[.ptr 2 0,.str nm,.agg [.int .i64 xk,.str xn,.lst xs xt,.lst ys xt],.map 3]) ⟨Weak.refl _,Weak.refl _,hx2 T.L,Weak.refl _,trivial⟩;have hlx:=hx3 4;refine hcall.to rfl (gq.at ⟨.ptr _ _ (by decide:2<4),.str _,hlx,.map _ (by decide:3<4),trivial⟩) (Ad e _) (.bool _) (Ad e s2) [.cells [.ptr 2 0] 179,.cells [.str nm] 10,bf (.mk k tn ns l),.cells [.map 3] 232,.cells [.bool false] 5,bf (.mk k tn ns l),.loop r .busy] rfl ?_;conv=>whnf
      cases c2
      ·cases hst
       replace hfin:BB s'=fin:=hfin;rw[hBB]at hfin;subst hfin;conv=>whnf
       exact⟨rfl,rfl,[],rfl⟩
      ·cases hst
       replace hfin:BF s'=fin:=hfin;rw[hBF]at hfin;subst hfin;conv=>whnf
       exact⟨rfl,rfl,[],rfl⟩
    ·rw[if_pos h2]at hst
     cases hst;rw[if_pos rfl,hBB]at hfin;subst hfin;conv=>whnf
     exact⟨rfl,rfl,[],rfl⟩
   ·rw[if_pos h1]at hst
    cases hst;rw[if_neg (by simp),hBF]at hfin;subst hfin;conv=>whnf
    exact⟨rfl,rfl,[],rfl⟩
  have h2:=F8 (fun s i=>cB e nm (.mk k tn ns l) s i) r (fun s i hi=>hcl i s hi) hlr BB BF (fun s=>by rw[hBB]) hFl _ Te oQ;have h3:=NH KF (.mk k tn ns l) 9 _ (by rw[hBB];rfl) h2;have hB0:BB seen=[cB e nm (.mk k tn ns l) seen 0,cB e nm (.mk k tn ns l) seen 1,cB e nm (.mk k tn ns l) seen 2,cB e nm (.mk k tn ns l) seen 3,cB e nm (.mk k tn ns l) seen 4,cB e nm (.mk k tn ns l) seen 5,cB e nm (.mk k tn ns l) seen 6,cB e nm (.mk k tn ns l) seen 7,cB e nm (.mk k tn ns l) seen 8,cB e nm (.mk k tn ns l) seen 9,.loop r .ready]:=by rw[hBB]
  rw[hB0]at h3;refine h3.mono fun r' H' ⟨e1,e2⟩=>?_
  clear h3 h2 Te hyp F8;subst e1;cases c
  ·have e2:H'=BF s1:=e2
   rw[hBF]at e2;subst e2;conv=>whnf
   refine⟨rfl,?_⟩;conv=>whnf
   exact⟨_,rfl,rfl⟩
  ·have e2:H'=BB s1:=e2
   rw[hBB]at e2;subst e2;conv=>whnf
   refine⟨rfl,?_⟩;conv=>whnf
   exact⟨_,rfl,rfl⟩
end Go.Ag
/- Package alias: New. -/
namespace Go.Ag
open Go
variable {T : Tab} {L : Lnk}
theorem aC.cut {f : Nat} {args : List au} {H0 : Heap} {Q : fE → Heap → Prop}
  (h : aC L f args H0 fun r H1 => ∃ r' K J, H1 = K ++ J ∧ xH L r r' ∧ Low K.length r'.v ∧ H0.length ≤ K.length ∧ (∀ o ∈ K, bI K.length o) ∧ Q r' K) : aC L f args H0 Q := fun g w vs hs hr =>
 (h g w vs hs hr).mono fun e w' ⟨r, H1, g', ⟨r', K, J, e1, e3, e4, e5, e8, e9⟩, hle, hst, hrep⟩ => by
  subst e1
  refine ⟨r', K, g'.cut K.length, e9, aA.Af hle fun i v hi => hs.new i v (Nat.le_trans e5 hi), hst.cut e8, ?_⟩
  cases r with
  | ret x =>
   cases r' with
   | ret y => obtain ⟨v, rfl, hrep⟩ := hrep; exact ⟨v, rfl, (e3 _ _ hrep).cut e4⟩
   | pan y => exact e3.elim
  | pan x =>
   cases r' with
   | ret y => exact e3.elim
   | pan y => obtain ⟨v, rfl, hrep⟩ := hrep; exact ⟨v, rfl, (e3 _ _ hrep).cut e4⟩
theorem bX.at3 {f:Nat} {args args':List au} {a b c d a' b' c' d' it:aU} {y:au} (h:bX L f args [a,b,c,d] y [a',b',c',d']) (hargs:args.map (ren (nameOf [0,1,2,4] 5))=args') (hy:ren (nameOf [0,1,2,4] 5) y=y)
  (h0:eX 3 [a,b,c,d]) (h1:eX 3 [a',b',c',d']):aC L f args' [a,b,c,it,d] fun r H'=>r=.ret y∧H'=[a',b',c',it,d']:=by
 have hρ:∀i,i<3→nameOf [0,1,2,4] 5 i=i:=fun i hi=>by
  match i,hi with
  |0,_=>rfl
  |1,_=>rfl
  |2,_=>rfl
  |i+3,h=>omega
 have hp:Part [a,b,c,it,d] [0,1,2,4] [a,b,c,d]:=by
  refine⟨by decide,rfl,fun k i o hk ho=>?_⟩;have:o∈[a,b,c,d]:=List.mem_of_getElem? ho;have hr:=jm hρ (h0.at o this);show [a,b,c,it,d][i]?=some (gV (nameOf [0,1,2,4] 5) o);rw[hr]
  match k,hk,ho with
  |0,hk,ho=>cases hk;exact ho
  |1,hk,ho=>cases hk;exact ho
  |2,hk,ho=>cases hk;exact ho
  |3,hk,ho=>cases hk;exact ho
  |k+4,hk,ho=>cases hk
 have hf:=aC.mY h [0,1,2,4] hp (.inr fun r H' hq=>by rw[hq.2];exact Nat.le_refl 4);rw[show args.map (ren (nameOf [0,1,2,4] [a,b,c,it,d].length))=args' from hargs]at hf;refine hf.mono fun r H' ⟨r1,H1',⟨e1,e2⟩,_,e3,e4⟩=>?_
 subst e1 e2;refine⟨by rw[e3];exact congrArg fE.ret hy,?_⟩;rw[e4];have q:∀o∈[a',b',c',d'],gV (nameOf [0,1,2,4] [a,b,c,it,d].length) o=o:=fun o ho=>jm hρ (h1.at o ho)
 have qa:=q a' (by simp);have qb:=q b' (by simp);have qc:=q c' (by simp);have qd:=q d' (by simp);simp[mG]at qa qb qc qd⊢;exact⟨qa,qb,qc,qd⟩
theorem put_T {H:Heap} {id c:Nat} {l:List (Bytes×TA)} {nm:Bytes} {t:TA} (h:H[id]?=some (.map (cu l 0) c)) (hc:c=l.length) (hn:(l.find? (·.1==nm)).isSome=false):
  yO 1 H (.map id) (.str nm) t.av=some (H.set id (.map (cu (l ++[(nm,t)]) 0) (l ++[(nm,t)]).length)):=by
 have hj:=Gh l nm 0 0
 have h2:(l.findIdx? (·.1==nm))=none:=by
  cases hq:l.findIdx? (·.1==nm)with
  |none=>rfl
  |some j=>
   have h3:(l.findIdx? (·.1==nm)).isSome=true:=by rw[hq];rfl
   rw[List.findIdx?_isSome,List.any_eq_true]at h3;rw[Bool.eq_false_iff]at hn;exact absurd (by rw[List.find?_isSome];exact h3) hn
 rw[h2]at hj;subst hc;simp only[yO,h,hj];rw[uD,List.length_append,Nat.zero_add];rfl
theorem CO {o:Option Heap} {v:Heap} {P:Heap→Prop} (h:o=some v) (hp:P v):(match(generalizing:=false) o with
  |some v=>P v
  |none=>False):=by rw[h];exact hp
def wY (p:Bytes×TA):au:=.agg (.str p.1::p.2.av.cells)
def fV (l:List (Bytes×TA)):List au:=l.map wY
theorem sK (n:Nat) (l:List (Bytes×TA)):∀x∈fV l,Low n x:=fun x hx=>by
 obtain⟨p,_,rfl⟩:=List.mem_map.1 hx;obtain⟨nm,⟨k,tn,ns,tl⟩⟩:=p;exact .agg _ (gq.at ⟨.str _,.int _ _,.str _,.lst _ _ trivial (fun y hy=>by obtain⟨s,_,rfl⟩:=List.mem_map.1 hy;exact .str _),.lst _ _ trivial (aY n tl),trivial⟩)
def ou (by_:List (Bytes×TA)) (p:Bytes×TA):List (Bytes×TA):=if(by_.find? (·.1==p.1)).isSome then by_ else by_ ++[(p.1,aN p.2)]
def jA (l:List (Bytes×TA)):List (Bytes×TA):=l.foldl ou []
structure lq (by_:List (Bytes×TA)) (e:dL):Prop where
 hby:e.by_=by_
 empty:∀p∈by_,∃n b s,gY by_ p.1 n p.2 []=some (b,s)∧Ki e.empty p.1=b
theorem SH {H:Heap} {id c:Nat} {l:List (Bytes×TA)} (h:H[id]?=some (.map (cu l 0) c)) (nm:Bytes):
  ∃(k:Int) (tn:Bytes) (xs ys:List au) (tk:Tok),mq 1 (.agg [.int .i64 0,.str [],.lst [] .nil,.lst [] .nil]) true H (.map id) (.str nm)=some (.tup [.agg [.int .i64 k,.str tn,.lst xs tk,.lst ys tk],.bool (l.find? (·.1==nm)).isSome]):=by
 rw[Kh h]
 cases hf:l.find? (·.1==nm)with
 |none=>exact⟨0,[],[],[],.nil,rfl⟩
 |some p=>obtain⟨pn,⟨pk,pm,ps,pl⟩⟩:=p;exact⟨_,_,_,_,_,rfl⟩
theorem K7 {l:List (Bytes×TA)} {i:Nat} (h:i<l.length):(fV l)[((i:Nat):Int).toNat]?=some (wY l[i]):=by
 unfold fV;simp[List.getElem?_map,List.getElem?_eq_getElem h]
theorem Gj :∀{l:List (Bytes×TA)} {j:Nat} {p:au×au×Nat},p∈cu l j→∃k,∃h:k<l.length,p=(.str l[k].1,l[k].2.av,j+k)
 |[],j,p,h=>by cases h
 |q::l,j,p,h=>by
  rcases List.mem_cons.1 h with rfl|h
  ·exact⟨0,by simp,rfl⟩
  ·obtain⟨k,hk,e⟩:=Gj h
   exact⟨k+1,by simpa using hk,by rw[e];simp;omega⟩
theorem xZ :∀(l:List (Bytes×TA)) (j k:Nat) (h:k<l.length),(cu l j).find? (·.2.2==j+k)=some (.str l[k].1,l[k].2.av,j+k)
 |[],j,k,h=>by cases h
 |q::l,j,0,h=>by rw[cu,List.find?_cons];simp
 |q::l,j,k+1,h=>by
  rw[cu,List.find?_cons];have:(j==j+(k+1))=false:=by simp
  simp only[this];have:=xZ l (j+1) k (by simpa using h);rw[show j+1+k=j+(k+1)from by omega]at this;simpa using this
theorem Zb {H:Heap} {m id n:Nat} {l:List (Bytes×TA)} {seen:List Nat} {K:au→Heap→Prop} (hid:H[id]?=some (.iJ (some m) n seen n)) (hm:H[m]?=some (.map (cu l 0) n))
  (h1:∀k (h:k<l.length),k∉seen→K (.tup [.bool true,.str l[k].1,l[k].2.av]) (H.set id (.iJ (some m) n (seen ++[k]) n))) (h2:(∀k,k<l.length→k∈seen)→K (.tup [.bool false]) H):nextK H (.ptr id 0) K:=by
 unfold nextK;simp only[hid,hm];refine⟨⟨trivial,trivial⟩,fun p hp hs=>?_,fun hall=>h2 fun k hk=>?_⟩
 ·obtain⟨k,hk,rfl⟩:=Gj hp
  rw[Nat.zero_add]at hs⊢;exact h1 k hk hs
 ·have:=xZ l 0 k hk
  have:=hall _ (List.mem_of_find?_eq_some this);rwa[Nat.zero_add]at this
theorem Ye {H:Heap} {m id n k:Nat} {l:List (Bytes×TA)} {seen:List Nat} (hid:H[id]?=some (.iJ (some m) n (seen ++[k]) n)) (hm:H[m]?=some (.map (cu l 0) n)) (hk:k<l.length):x9 H (.ptr id 0)=some (.tup [.str l[k].1,l[k].2.av]):=by
 have:=xZ l 0 k hk;rw[Nat.zero_add]at this;simp only[x9,hid,hm,List.getLast?_append,List.getLast?_singleton,Option.some_or,if_true,this,Option.map_some]
theorem zo :∀(l:List (Bytes×Bool)) (p:Bytes×Bool) (k:Nat),gF (l ++[p]) k=gF l k ++[(.str p.1,.bool p.2,k+l.length)]
 |[],p,k=>rfl
 |q::l,p,k=>by
  rw[List.cons_append,gF,zo l p (k+1),gF,List.cons_append,List.length_cons,show k+1+l.length=k+(l.length+1)from by omega]
theorem put_E {H:Heap} {id c:Nat} {l:List (Bytes×Bool)} {nm:Bytes} {b:Bool} (h:H[id]?=some (.map (gF l 0) c)) (hc:c=l.length) (hn:nm∉l.map (·.1)):
  yO 1 H (.map id) (.str nm) (.bool b)=some (H.set id (.map (gF (l ++[(nm,b)]) 0) (l ++[(nm,b)]).length)):=by
 have hj:=TU l nm 0 0
 have h2:(l.findIdx? (·.1==nm))=none:=by
  cases hq:l.findIdx? (·.1==nm)with
  |none=>rfl
  |some j=>
   have h3:(l.findIdx? (·.1==nm)).isSome=true:=by rw[hq];rfl
   rw[List.findIdx?_isSome,List.any_eq_true]at h3;obtain⟨p,hp,he⟩:=h3;exact absurd (List.mem_map.2 ⟨p,hp,by simpa using he⟩) hn
 rw[h2]at hj;subst hc;simp only[yO,h,hj];rw[zo,List.length_append,Nat.zero_add];rfl
theorem LG {B:List (Bytes×TA)} (h:(B.map (·.1)).Nodup) (p:Bytes×TA):((ou B p).map (·.1)).Nodup:=by
 unfold ou;split
 ·exact h
 ·rename_i hs
  rw[List.map_append,List.nodup_append];refine⟨h,by simp,fun a ha b hb=>?_⟩;simp only[List.map_cons,List.map_nil,List.mem_singleton]at hb;subst hb
  rintro rfl
  obtain⟨q,hq,he⟩:=List.mem_map.1 ha;exact hs (by rw[List.find?_isSome];exact⟨q,hq,by simp[he]⟩)
theorem Bj (l:List (Bytes×TA)):((jA l).map (·.1)).Nodup:=by
 have key:∀(l B:List (Bytes×TA)),(B.map (·.1)).Nodup→((l.foldl ou B).map (·.1)).Nodup:=by
  intro l
  induction l with
  |nil=>exact fun B h=>h
  |cons p l ih=>exact fun B h=>ih _ (LG h p)
 exact key l [] (by simp)
structure vU (by_:List (Bytes×TA)) (seen:List Nat) (em:List (Bytes×Bool)):Prop where
 nodup:seen.Nodup
 lt:∀k∈seen,k<by_.length
 keys:em.map (·.1)=seen.map fun k=>(by_[k]?.map (·.1)).getD []
 val:∀q∈em,∃p∈by_,p.1=q.1∧∃n s,gY by_ p.1 n p.2 []=some (q.2,s)
theorem FQ {by_:List (Bytes×TA)} (h:(by_.map (·.1)).Nodup) {i j:Nat} (hi:i<by_.length) (hj:j<by_.length) (e:by_[i].1=by_[j].1):i=j:=by
 have:=(List.getElem_inj (h₀:=by simpa using hi) (h₁:=by simpa using hj) h).1 (by simpa using e);exact this
theorem vU.notin {by_:List (Bytes×TA)} (hn:(by_.map (·.1)).Nodup) {seen:List Nat} {em:List (Bytes×Bool)} (h:vU by_ seen em) {k:Nat} (hk:k<by_.length) (hs:k∉seen):by_[k].1∉em.map (·.1):=by
 rw[h.keys];intro hm;obtain⟨j,hj,e⟩:=List.mem_map.1 hm;have hjl:=h.lt j hj;rw[List.getElem?_eq_getElem hjl]at e;have:=FQ hn hjl hk e;subst this;exact hs hj
theorem vU.add {by_:List (Bytes×TA)} {seen:List Nat} {em:List (Bytes×Bool)} (h:vU by_ seen em) {k:Nat} (hk:k<by_.length) (hs:k∉seen) {b:Bool} {n:Nat} {s:List Bytes} (hc:gY by_ by_[k].1 n by_[k].2 []=some (b,s)):vU by_ (seen ++[k]) (em ++[(by_[k].1,b)]):=by
 refine⟨?_,fun j hj=>?_,?_,fun q hq=>?_⟩
 ·rw[List.nodup_append]
  exact⟨h.nodup,by simp,fun a ha b hb=>by simp only[List.mem_singleton]at hb;subst hb;rintro rfl;exact hs ha⟩
 ·rcases List.mem_append.1 hj with hj|hj
  ·exact h.lt j hj
  ·simp only[List.mem_singleton]at hj;subst hj;exact hk
 ·rw[List.map_append,List.map_append,h.keys]
  simp[List.getElem?_eq_getElem hk]
 ·rcases List.mem_append.1 hq with hq|hq
  ·exact h.val q hq
  ·simp only[List.mem_singleton]at hq;subst hq;exact⟨by_[k],List.getElem_mem hk,rfl,n,s,hc⟩
theorem vU.done {by_:List (Bytes×TA)} (hn:(by_.map (·.1)).Nodup) {seen:List Nat} {em:List (Bytes×Bool)} (h:vU by_ seen em) (hall:∀k,k<by_.length→k∈seen):lq by_ ⟨by_,em⟩:=by
 refine⟨rfl,fun p hp=>?_⟩;obtain⟨k,hk,rfl⟩:=List.getElem_of_mem hp
 have hmem:by_[k].1∈em.map (·.1):=by
  rw[h.keys];exact List.mem_map.2 ⟨k,hall k hk,by rw[List.getElem?_eq_getElem hk];rfl⟩
 have hsome:(em.find? (·.1==by_[k].1)).isSome=true:=by
  rw[List.find?_isSome];obtain⟨q,hq,e⟩:=List.mem_map.1 hmem;exact⟨q,hq,by simp[e]⟩
 obtain⟨q,hq⟩:=Option.isSome_iff_exists.1 hsome;have hqe:q.1=by_[k].1:=by simpa using List.find?_some (p:=fun x:Bytes×Bool=>x.1==by_[k].1) hq
 obtain⟨p,hp2,e1,n,s,hc⟩:=h.val q (List.mem_of_find?_eq_some hq);obtain⟨j,hj,rfl⟩:=List.getElem_of_mem hp2;have:=FQ hn hj hk (e1.trans hqe);subst this;exact⟨n,q.2,s,hc,by unfold Ki;rw[hq];rfl⟩
theorem LM (F:zL T) (l:List (Bytes×TA)) (hl:l.length≤2^30) (hok:∀p∈l,okN p.2) (hE:∀p∈jA l,wtT p.2≤2^40) (hF:∀p∈jA l,∃n b s,gY (jA l) p.1 n p.2 []=some (b,s)):
  aC T.L 144 [.lst (fV l) .none] [] fun r H'=>∃e,lq (jA l) e∧r=.ret (.ptr 2 0)∧H'=iU e:=by
 refine aC.cut (aC.mono (Q:=fun r H'=>∃e J,lq (jA l) e∧r=.ret (.ptr 2 0)∧H'=iU e ++J) ?_ fun r H' ⟨e,J,e1,e2,e3⟩=>⟨.ret (.ptr 2 0),iU e,J,e3,by rw[e2];exact Weak.refl _,Low.ptr 2 0 (show 2<3 by decide),Nat.zero_le _,sJ e,e,e1,rfl,rfl⟩);refine aG F.X6 (by simp[Vm]) ?_;conv=>whnf
 intro I hI hG
 have key:∀(d j:Nat) (e:Env),l.length-j=d→j≤l.length→I (gB e [(3,.ptr 2 0),(13,.lst (fV l) .none),(14,.int .i64 l.length),(15,.int .i64 j)]) [.map (cu ((l.take j).foldl ou []) 0) ((l.take j).foldl ou []).length,.map [] 0,.cells [.map 0,.map 1] 234]:=by
  intro d
  induction d with
  |zero=>
   intro j e hd hj;have hjl:j=l.length:=by omega
   apply hI;rw[hjl,List.take_length];conv=>whnf
   rw[bU (Nat.le_refl _)];conv=>whnf
   obtain⟨B,hB⟩:∃B,jA l=B:=⟨_,rfl⟩;have hnd:=Bj l;rw[hB]at hE hF hnd;rw[show l.foldl ou []=B from hB,hB];clear hI hG I;intro I hI hG
   have key2:∀(d:Nat) (seen:List Nat) (em:List (Bytes×Bool)) (e:Env),B.length-seen.length=d→vU B seen em→I (gB e [(3,.ptr 2 0),(45,.ptr 3 0)]) [.map (cu B 0) B.length,.map (gF em 0) em.length,.cells [.map 0,.map 1] 234,.iJ (some 0) B.length seen B.length]:=by
    intro d
    induction d using Nat.strongRecOn with
    |ind d ih2=>
     intro seen em e hd hS;apply hI;conv=>whnf
     refine Zb (l:=B) (n:=B.length) rfl rfl (fun k hk hks=>?_) fun hall=>?_
     ·have hS2:=fun b n s hc=>hS.add hk hks (b:=b) (n:=n) (s:=s) hc
      have hlen:seen.length<B.length:=by
       obtain⟨n,b,s,hc⟩:=hF _ (List.getElem_mem hk);have h1:=hS2 b n s hc;have h2:=h1.nodup.length_le_of_subset (l₂:=List.range B.length) fun j hj=>List.mem_range.2 (h1.lt j hj)
       simp at h2;omega
      have hnot:=hS.notin hnd hk hks;have hlk:dF B B[k].1=B[k].2:=Ae hnd (List.getElem_mem hk);have hmem:B[k].1∈B.map (·.1):=List.mem_map.2 ⟨_,List.getElem_mem hk,rfl⟩;have Zp:=Ye (H:=[.map (cu B 0) B.length,.map (gF em 0) em.length,.cells [.map 0,.map 1] 234,.iJ (some 0) B.length (seen ++[k]) B.length]) (m:=0) (id:=3) (seen:=seen) rfl rfl hk;obtain⟨n,b,s,hc⟩:=hF _ (List.getElem_mem hk);have hS3:=hS2 b n s hc;have hcomes:=Ep F ⟨B,em⟩ hE _ n _ _ _ _ hc (hE _ (List.getElem_mem hk));have hnext:=fun e=>ih2 (B.length-(seen ++[k]).length) (by simp;omega) (seen ++[k]) _ e rfl hS3
      clear hS3 hS2 hc hF hS;generalize B[k]=v at*;obtain⟨nm,⟨vk,vn,vs,vl⟩⟩:=v;have F9:=fun H c z h=>Ij (H:=H) (id:=0) (c:=c) (x:=B) (nm:=nm) (z:=z) h hmem
      rw[hlk]at F9;have hcall:bX T.L 187 [.ptr 2 0,.str nm,(TA.mk vk vn vs vl).av,.map 3] [.map (cu B 0) B.length,.map (gF em 0) em.length,.cells [.map 0,.map 1] 234,.map [] 0] (.bool b) [.map (cu B 0) B.length,.map (gF em 0) em.length,.cells [.map 0,.map 1] 234,.map (rC s 0) s.length]:=hcomes
      have Zq:=bX.at3 (it:=.iJ (some 0) B.length (seen ++[k]) B.length) (args':=[.ptr 2 0,.str nm,(TA.mk vk vn vs vl).av,.map 4]) hcall (by
       have hr:∀x:au,Low 3 x→ren (nameOf [0,1,2,4] 5) x=x:=fun x hx=>iR (n:=3) (fun i hi=>by
        match i,hi with
        |0,_=>rfl
        |1,_=>rfl
        |2,_=>rfl
        |i+3,h=>omega) hx
       rw[List.map_cons,List.map_cons,List.map_cons,List.map_cons,hr _ (aQ 3 _)]
       rfl) rfl ⟨dY 3 _ _,fA 3 _ _,dH ⟨.map _ (by decide:0<3),.map _ (by decide:1<3),trivial⟩,fun e he=>(by cases he),trivial⟩ ⟨dY 3 _ _,fA 3 _ _,dH ⟨.map _ (by decide:0<3),.map _ (by decide:1<3),trivial⟩,wK 3 _ _,trivial⟩
      have hput:=fun H h=>put_E (H:=H) (id:=1) (c:=em.length) (l:=em) (nm:=nm) (b:=b) h rfl hnot
      conv=>whnf
      refine iO Zp ?_;conv=>whnf
      refine⟨?_,?_⟩
      all_goals
       conv=>whnf
       refine iO (F9 _ B.length _ rfl) ?_;conv=>whnf
       refine Zq.to1 ?_;conv=>whnf
       refine⟨⟨rfl,trivial⟩,?_⟩;conv=>whnf
       refine CO (hput _ rfl) ?_;conv=>whnf
       exact hG.keep [(3,.ptr 2 0),(45,.ptr 3 0)] [.map (cu B 0) B.length,.map (gF (em ++[(nm,b)]) 0) (em ++[(nm,b)]).length,.cells [.map 0,.map 1] 234,.iJ (some 0) B.length (seen ++[k]) B.length] (Nat.le_refl 4) rfl ⟨rfl,rfl,trivial⟩ ⟨.ptr _ _ (by decide:2<4),.ptr _ _ (by decide:3<4),trivial⟩
        ⟨dY 4 _ _,fA 4 _ _,dH ⟨.map _ (by decide:0<4),.map _ (by decide:1<4),trivial⟩,(by decide:0<4),trivial⟩ (hnext _)
     ·conv=>whnf
      exact⟨⟨B,em⟩,_,hS.done hnd hall,rfl,rfl⟩
   exact inv_of [(3,.ptr 2 0),(45,.ptr 3 0)] ⟨rfl,rfl,trivial⟩ (key2 B.length [] [] _ (by simp) ⟨by simp,fun k hk=>(by cases hk),rfl,fun q hq=>(by cases hq)⟩)
  |succ d ihd=>
   intro j e hd hj;have hjl:j<l.length:=by omega
   have hnext:=fun e=>ihd (j+1) e (by omega) hjl
   have hget:=K7 hjl;have hN:=wT F.toAA l[j].2 (hok _ (List.getElem_mem hjl));rw[List.take_succ_eq_append_getElem hjl,List.foldl_append]at hnext;simp only[List.foldl_cons,List.foldl_nil]at hnext;generalize (l.take j).foldl ou []=B at hnext⊢;generalize l[j]=v at hnext hget hN;obtain⟨nm,t⟩:=v;have hadd:ou B (nm,t)=if(B.find? (·.1==nm)).isSome then B else B ++[(nm,aN t)]:=rfl
   rw[hadd]at hnext;have hput:=fun H id c h hc hn=>put_T (H:=H) (id:=id) (c:=c) (l:=B) (nm:=nm) (t:=aN t) h hc hn
   generalize aN t=u at hN hnext hput;obtain⟨uk,un,us,ul⟩:=u;obtain⟨tk,tn,ts,tl⟩:=t;apply hI;conv=>whnf
   rw[dz hjl];conv=>whnf
   refine step_elem (Int.natCast_nonneg _) hget rfl ?_;conv=>whnf
   obtain⟨xk,xn,xs,ys,xt,hx⟩:=SH (H:=[.map (cu B 0) B.length,.map [] 0,.cells [.map 0,.map 1] 234,.cells [.str nm,.int .i64 tk,.str tn,.lst (aO ts) .none,.lst (TA.avs tl) .none] 182,.cells [.int .i64 0,.str [],.lst [] .nil,.lst [] .nil] 175]) (id:=0) (c:=B.length) (l:=B) rfl nm
   have hlowB:∀B':List (Bytes×TA),eX 3 [.map (cu B' 0) B'.length,.map [] 0,.cells [.map 0,.map 1] 234]:=fun B'=>
    ⟨dY 3 _ _,fun e he=>(by cases he),dH ⟨.map _ (by decide:0<3),.map _ (by decide:1<3),trivial⟩,trivial⟩
   have fin:∀(B':List (Bytes×TA)) (e3:Env) (H3:Heap),(if(B.find? (·.1==nm)).isSome then B else B ++[(nm,.mk uk un us ul)])=B'→H3.take 3=[.map (cu B' 0) B'.length,.map [] 0,.cells [.map 0,.map 1] 234]→
     fC e3 [(3,.ptr 2 0),(13,.lst (fV l) .none),(14,.int .i64 l.length),(15,.int .i64 (j+1:Nat))]→I e3 H3:=fun B' e3 H3 h0 h1 h2=>by
    subst h0;exact hG.keep [(3,.ptr 2 0),(13,.lst (fV l) .none),(14,.int .i64 l.length),(15,.int .i64 (j+1:Nat))] [.map (cu (if(B.find? (·.1==nm)).isSome then B else B ++[(nm,.mk uk un us ul)]) 0) (if(B.find? (·.1==nm)).isSome then B else B ++[(nm,.mk uk un us ul)]).length,.map [] 0,.cells [.map 0,.map 1] 234] (Nat.le_refl 3) h1 h2 ⟨.ptr _ _ (by decide:2<3),.lst _ _ trivial (sK 3 l),.int _ _,.int _ _,trivial⟩ (hlowB _) (hnext _)
   refine iO hx ?_;cases hb:(B.find? (·.1==nm)).isSome
   ·rw[hb]at fin
    have hp:=fun H c h hc=>hput H 0 c h hc hb
    conv=>whnf
    refine⟨?fst,?_⟩
    case' fst=>
     conv=>whnf
     refine⟨?_,?_⟩
    all_goals conv=>whnf
    all_goals
     refine hN.to ?_;conv=>whnf
     refine⟨⟨rfl,rfl,trivial⟩,?_⟩;conv=>whnf
     refine CO (hp _ B.length rfl rfl) ?_;conv=>whnf
     exact fin _ _ _ rfl rfl ⟨rfl,rfl,rfl,add1 (by omega),trivial⟩
   ·rw[hb]at fin
    conv=>whnf
    refine⟨?snd0,?_⟩
    case' snd0=>
     conv=>whnf
     refine⟨?_,?_⟩
    all_goals conv=>whnf
    all_goals exact fin B _ _ rfl rfl ⟨rfl,rfl,rfl,add1 (by omega),trivial⟩
 exact inv_of [(3,.ptr 2 0),(13,.lst (fV l) .none),(14,.int .i64 l.length),(15,.int .i64 0)] ⟨rfl,rfl,by show au.int .i64 ((fV l).length:Nat)=_;simp[fV],rfl,trivial⟩ (key l.length 0 _ rfl (Nat.zero_le _))
end Go.Ag

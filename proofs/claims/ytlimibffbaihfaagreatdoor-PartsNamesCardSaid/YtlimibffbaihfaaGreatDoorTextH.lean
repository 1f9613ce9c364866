/- Our texts, joined by a program of ours (join.py): part 8 of 9. -/
import Derived.Test.YtlimibffbaihfaaGreatDoorTextG
import Derived.Deep.Slices
import Derived.ChangeArms
import Derived.Deep.Draws
import Derived.Lib.IndexMore
import Derived.Lib.Join
import Derived.Lib.Bytealg
import Derived.Laws.AppendOwn
import Derived.Sort.EncStr
import Derived.Sort.Grow
import Derived.Sort.Row
import Derived.Shelf.GgSortFunc.InsertionK
import Derived.Lib.ParseIntB
import Derived.Lib.AtoiErrMem
set_option linter.unusedVariables false
/- Package cupellaw08: Small, Made. -/
namespace Go.Ag
open Go
variable {T : Tab} {L : Lnk}
structure zi (T:Tab):Prop extends zq T,zh T,zf T,UJ T where
 Sk:T.has 147 Oy
 WY:T.has 148 Uq
 J2:T.has 190 Ov
def NZ (d:dV):Bytes×TA:=(d.name,d.ts.headD jY)
def kI (l:List dV):List (Bytes×TA):=(l.filter (·.kind==2)).map NZ
theorem Kn (l:List dV) (j:Nat) (h:j<l.length):kI (l.take (j+1))=if l[j].kind==2 then kI (l.take j) ++[NZ l[j]]else kI (l.take j):=by
 rw[List.take_succ_eq_append_getElem h];unfold kI;rw[List.filter_append];cases hk:l[j].kind==2
 ·rw[if_neg (by simp),show [l[j]].filter (·.kind==2)=[]from by simp[List.filter,hk],List.append_nil]
 ·rw[if_pos rfl,show [l[j]].filter (·.kind==2)=[l[j]]from by simp[List.filter,hk],List.map_append]
  rfl
theorem IK (l:List (Bytes×TA)):dA 5 (gy l):=fun x hx=>by
 obtain⟨⟨nm,⟨k,tn,ns,tl⟩⟩,_,rfl⟩:=List.mem_map.1 hx;exact⟨rfl,rfl⟩
theorem vZ (l:List (Bytes×TA)):(gy l).length=l.length:=by simp[gy]
theorem MK (l:List (Bytes×TA)) (p:Bytes×TA):gy (l ++[p])=gy l ++[wK p]:=by simp[gy]
def jd (l:List (Bytes×TA)):Nat:=(l.map fun p=>szT p.2).sum
theorem MZ (F:zi T) (l:List (Bytes×TA)) (hl:l.length≤2^30) (hw:∀p∈l,wtT p.2≤2^30) (tk:Tok) (htk:ng 0 tk):Pure T.L 148 [.lst (gy l) tk] (.bool (decide (jd l≤60))):=by
 refine Pure.run (dF (.lst _ _ htk (rR 0 l))) (.bool _) (aG F.WY (by simp[Uq]) ?_)
 have hsum:∀j,j≤l.length→jd (l.take j)≤j*2^30:=fun j=>by
  induction j with
  |zero=>intro _;simp[jd]
  |succ j ih=>
   intro h;have h1:=ih (by omega);rw[List.take_succ_eq_append_getElem (by omega)];unfold jd at h1⊢;rw[List.map_append,List.sum_append_nat,List.map_singleton,List.sum_singleton];have h2:=hw _ (List.getElem_mem (show j<l.length by omega));have h3:=BD _ l[j].2 (Nat.le_refl _);unfold szT at*;omega
 conv=>whnf
 intro I hI hG
 have key:∀(d j:Nat) (e:Env),l.length-j=d→j≤l.length→I (fZ e [(0,.lst (gy l) tk),(3,.int .i64 ((jd (l.take j):Nat):Int)),(4,.int .i64 j)]) []:=by
  intro d
  induction d with
  |zero=>
   intro j e hd hj;have hjl:j=l.length:=by omega
   apply hI;conv=>whnf
   rw[show decide (((j:Nat):Int)<(((gy l).length:Nat):Int))=false from by rw[vZ,hjl];simp];conv=>whnf
   rw[hjl,List.take_length,show decide (((jd l:Nat):Int)≤60)=decide (jd l≤60)from by
    by_cases h:jd l≤60
    ·rw[decide_eq_true h,decide_eq_true (by omega)]
    ·rw[decide_eq_false h,decide_eq_false (by omega)]]
   exact aH (Weak.refl _)
  |succ d ihd=>
   intro j e hd hj;have hjl:j<l.length:=by omega
   have hget:=Ko hjl;have hnext:=fun e=>ihd (j+1) e (by omega) hjl
   have hs1:=hsum j hj;have hs2:=hsum (j+1) hjl
   have hst:jd (l.take (j+1))=jd (l.take j)+szT l[j].2:=by
    rw[List.take_succ_eq_append_getElem hjl];unfold jd;rw[List.map_append,List.sum_append_nat,List.map_singleton,List.sum_singleton]
   rw[hst]at hnext hs2;have hwj:=hw _ (List.getElem_mem hjl);have hc:=uD F.J2 _ l[j].2 (Nat.lt_succ_self _) (by omega);have hb:(j+1)*2^30≤2^30*2^30:=Nat.mul_le_mul_right _ (by omega);generalize l[j]=v at hget hc hnext hs2 hwj;generalize jd (l.take j)=m at hnext hs2 hs1⊢;apply hI;obtain⟨nm,⟨vk,vn,vs,vl⟩⟩:=v;conv=>whnf
   rw[show decide (((j:Nat):Int)<(((gy l).length:Nat):Int))=true from by rw[vZ];simp;omega];conv=>whnf
   refine step_elem (Int.natCast_nonneg _) hget rfl ?_;conv=>whnf
   refine⟨Nat.le_of_ble_eq_true rfl,?_⟩;conv=>whnf
   refine hc.to ?_;conv=>whnf
   refine inv_of [(0,.lst (gy l) tk),(3,.int .i64 ((m+szT (.mk vk vn vs vl):Nat):Int)),(4,.int .i64 (j+1:Nat))] ⟨rfl,?_,add1 (by omega),trivial⟩ (hnext _);show au.int .i64 (IntKind.i64.wrap (((m:Nat):Int)+((szT (.mk vk vn vs vl):Nat):Int)))=_;rw[IntWalk.i64_in _ (by dsimp only at hs2;omega)]
   congr 1
 exact inv_of [(0,.lst (gy l) tk),(3,.int .i64 0),(4,.int .i64 0)] ⟨rfl,rfl,rfl,trivial⟩ (key l.length 0 _ rfl (Nat.zero_le _))
theorem Xh {l:List dV} {i:Nat} (h:i<l.length):(l.map dV.av)[((i:Nat):Int).toNat]?=some l[i].av:=by
 simp[List.getElem?_map,List.getElem?_eq_getElem h]
def gN (src:Bytes):List (Bytes×TA):=kI (gK src).1
theorem sD (src:Bytes) (hs:src.length≤600):∀p∈gN src,jM p.1∧GT p.2∧wtT p.2≤2^19:=fun p hp=>by
 unfold gN kI at hp;obtain⟨d,hd,rfl⟩:=List.mem_map.1 hp;obtain⟨h1,h2⟩:=List.mem_filter.1 hd;obtain⟨hn,t,ht,hg,hw⟩:=CB src (by omega) d h1 (by simpa using h2);unfold NZ;rw[ht];have:(src.length+82)*(src.length+1)≤682*601:=Nat.mul_le_mul (by omega) (by omega);exact⟨hn,hg,Nat.le_trans hw (by omega)⟩
theorem Ai (src:Bytes) (hs:src.length≤600):(gN src).length≤2^30:=by
 unfold gN kI;rw[List.length_map];refine Nat.le_trans (List.length_filter_le _ _) ?_;obtain⟨hok,hlen,hdl⟩:=mE src (by omega);have zQ:(bD src).rem≤src.length+1:=by unfold RS.rem;omega
 have hp:(bD src).pot≤(bD src).diags.length+2*(bD src).toks.length+1:=by
  unfold RS.pot;split<;>omega
 have:=(nK (og src) (bD src).rem [] (bD src) ⟨hok.lt,hok.more,hok.len,hok.txt,by omega,hok.named,hok.num⟩ rfl (Nat.le_refl _) (fun d hd=>by cases hd)).2;unfold gK;simp at this;omega
theorem E8 :∀{l:List (Bytes×TA)} {p:Bytes×TA},p∈jh l→∃q∈l,p=(q.1,aU q.2):=fun{l p}=>by
 have key:∀(l B:List (Bytes×TA)),p∈l.foldl om B→p∈B∨∃q∈l,p=(q.1,aU q.2):=fun l=>by
  induction l with
  |nil=>exact fun B h=>.inl h
  |cons q l ih=>
   intro B h;rcases ih _ h with h|⟨r,hr,e⟩
   ·unfold om at h
    split at h
    ·exact .inl h
    ·rcases List.mem_append.1 h with h|h
     ·exact .inl h
     ·rw[List.mem_singleton]at h;exact .inr ⟨q,by simp,h⟩
   ·exact .inr ⟨r,by simp[hr],e⟩
 intro h;rcases key l [] h with h|h
 ·cases h
 ·exact h
theorem QD (F:zi T) (src:Bytes) (hs:src.length≤600):aC T.L 147 [.str src] [] fun r H'=>∃e o0 o1,l7 (jh (gN src)) e∧bF 0 o0∧bF 0 o1∧r=.ret (.tup [.ptr 4 0,.lst (gy (gN src)) .none,.bool (decide ((gN src).length≤8))])∧
  H'=[o0,o1,.map (bZ e.by_ 0) e.by_.length,.map (gH e.empty 0) e.empty.length,.cells [.map 2,.map 3] 234]:=by
 have hD:=sD src hs;have hDl:=Ai src hs;have hP:=M0 F.tozh src (by omega);have hP5:=GD F.toUJ src (by omega);have hG:=CB src (by omega);have hPl:(gK src).1.length≤2^33:=(Jh src (by omega)).2
 have hnew:=UM F.tozq (gN src) hDl (fun p hp=>GI (hD p hp).2.1 (by have:=(hD p hp).2.2;omega)) (fun p hp=>by
  obtain⟨q,hq,rfl⟩:=E8 hp;have h1:=(hD q hq).2.2;have h2:=qZ q.2;dsimp only
  omega)
 unfold gN at*;generalize (gK src).2.diags.map bM.av=DG at hP hP5;generalize (gK src).1=l at*;refine aC.FM 2 ?_
 refine aC.cut (aC.mono (Q:=fun r H'=>∃e o0 o1 tk J,l7 (jh (kI l)) e∧bF 0 o0∧bF 0 o1∧r=.ret (.tup [.ptr 4 0,.lst (gy (kI l)) tk,.bool (decide ((kI l).length≤8))])∧
  H'=[o0,o1,.map (bZ e.by_ 0) e.by_.length,.map (gH e.empty 0) e.empty.length,.cells [.map 2,.map 3] 234] ++J) ?_ fun r H' ⟨e,o0,o1,tk,J,e1,h0,h1,e2,e3⟩=>⟨.ret (.tup [.ptr 4 0,.lst (gy (kI l)) .none,.bool (decide ((kI l).length≤8))]),[o0,o1,.map (bZ e.by_ 0) e.by_.length,.map (gH e.empty 0) e.empty.length,.cells [.map 2,.map 3] 234],J,e3,by rw[e2];exact Weak.tup ⟨Weak.refl _,Weak.tok _ _,Weak.refl _,trivial⟩,.tup _ (gD.at ⟨.ptr _ _ (show 4<5 by decide),.lst _ _ trivial (rR _ _),.bool _,trivial⟩),Nat.le_of_ble_eq_true rfl,
   fO.at ⟨aI (Nat.zero_le _) h0,aI (Nat.zero_le _) h1,fC 5 _ _,gG 5 _ _,dW ⟨.map _ (show 2<5 by decide),.map _ (show 3<5 by decide),trivial⟩,trivial⟩,e,o0,o1,e1,h0,h1,rfl,rfl⟩)
 refine aG F.Sk (by simp[Oy]) ?_;have h1:decide ((src.length:Int)>600)=false:=decide_eq_false (by omega);conv=>whnf
 rw[h1];conv=>whnf
 refine hP.to ?_;conv=>whnf
 refine hP5.to ?_;conv=>whnf
 intro I hI hGC
 have key:∀(d j:Nat) (XS:List au) (e:Env),l.length-j=d→j≤l.length→XS=gy (kI (l.take j))→XS.length≤j→
   I (fZ e [(5,.lst (l.map dV.av) .none),(7,.lst (l.map dV.av) .none),(9,.lst XS (bA XS.length 0)),(10,.lst XS (bA XS.length 1)),(11,.int .i64 j)]) [aZ XS.length 182,aZ XS.length 244]:=by
  intro d
  induction d with
  |zero=>
   intro j XS e hd hj hX hXl;have hjl:j=l.length:=by omega
   rw[hjl,List.take_length]at hX;have hlen:XS.length=(kI l).length:=by rw[hX,vZ]
   apply hI;conv=>whnf
   rw[show decide (((j:Nat):Int)<(((l.map dV.av).length:Nat):Int))=false from by rw[List.length_map,hjl];simp];conv=>whnf
   rw[hX];refine(hnew _ _).mono fun r H' ⟨e,hok,e1,e2⟩=>?_
   subst e1 e2;conv=>whnf
   rw[show decide ((((gy (kI l)).length:Nat):Int)≤8)=decide ((kI l).length≤8)from by
    rw[vZ]
    by_cases h:(kI l).length≤8
    ·rw[decide_eq_true h,decide_eq_true (by omega)]
    ·rw[decide_eq_false h,decide_eq_false (by omega)]]
   exact⟨e,_,_,_,[],hok,bB _ _ _,bB _ _ _,rfl,rfl⟩
  |succ d ihd=>
   intro j XS e hd hj hX hXl;have hjl:j<l.length:=by omega
   have hnext:=fun YS e h1 h2=>ihd (j+1) YS e (by omega) hjl h1 h2
   rw[Kn l j hjl]at hnext;have hget:=Xh hjl;have hg:=hG _ (List.getElem_mem hjl);generalize l[j]=v at hget hnext hg;obtain⟨vk,vp,vn,vts,ves⟩:=v;apply hI;conv=>whnf
   rw[show decide (((j:Nat):Int)<(((l.map dV.av).length:Nat):Int))=true from by rw[List.length_map];simp;omega];conv=>whnf
   refine step_elem (Int.natCast_nonneg _) hget rfl ?_;conv=>whnf
   refine⟨Nat.zero_le _,?_⟩;conv=>whnf
   dsimp only at hnext;cases hk:(vk==2)
   ·rw[hk,if_neg (by simp)]at hnext
    conv=>whnf
    exact inv_of [(5,.lst (l.map dV.av) .none),(7,.lst (l.map dV.av) .none),(9,.lst XS (bA XS.length 0)),(10,.lst XS (bA XS.length 1)),(11,.int .i64 (j+1:Nat))] ⟨rfl,rfl,rfl,rfl,add1 (show j+1<9223372036854775808 by omega),trivial⟩ (hnext XS _ hX (by omega))
   ·obtain⟨hn,t,ht,_,_⟩:=hg (by simpa using hk)
    dsimp only at ht;subst ht;rw[hk,if_pos rfl]at hnext;have hdef:NZ ⟨vk,vp,vn,[t],ves⟩=(vn,t):=rfl;rw[hdef,MK,←hX]at hnext;have sX:dA 5 XS:=by rw[hX];exact IK _
    obtain⟨tk,tn,tns,tl⟩:=t
    have app0:∀{H:Heap} {K:au→Heap→Prop} {tk0:Tok},H[0]?=some (aZ XS.length 182)→K (.lst (XS ++[wK (vn,.mk tk tn tns tl)]) (bA (XS ++[wK (vn,.mk tk tn tns tl)]).length 0)) (H.set 0 (aZ (XS ++[wK (vn,.mk tk tn tns tl)]).length 182))→mh 5 88 182 (.lst XS (bA XS.length 0)) (.lst [wK (vn,.mk tk tn tns tl)] tk0) H K:=
     fun h1 h2=>dx sX (bN rfl) (by simp;omega) (by simp;omega) (by simp) h1 h2
    have app1:∀{H:Heap} {K:au→Heap→Prop} {tk0:Tok},H[1]?=some (aZ XS.length 244)→K (.lst (XS ++[wK (vn,.mk tk tn tns tl)]) (bA (XS ++[wK (vn,.mk tk tn tns tl)]).length 1)) (H.set 1 (aZ (XS ++[wK (vn,.mk tk tn tns tl)]).length 244))→mh 5 88 244 (.lst XS (bA XS.length 1)) (.lst [wK (vn,.mk tk tn tns tl)] tk0) H K:=
     fun h1 h2=>dx sX (bN rfl) (by simp;omega) (by simp;omega) (by simp) h1 h2
    have hnext:=fun e=>hnext (XS ++[wK (vn,.mk tk tn tns tl)]) e rfl (by simp;omega)
    clear hX;conv=>whnf
    refine step_elem (Int.natCast_nonneg _) hget rfl ?_;conv=>whnf
    refine⟨Nat.le_of_ble_eq_true rfl,?_⟩;conv=>whnf
    refine step_elem (Int.natCast_nonneg _) hget rfl ?_;conv=>whnf
    refine⟨Nat.le_of_ble_eq_true rfl,?_⟩;conv=>whnf
    refine⟨Int.le_refl 0,?_⟩;conv=>whnf
    refine⟨rfl,?_⟩;conv=>whnf
    refine app0 rfl ?_;conv=>whnf
    refine step_elem (Int.natCast_nonneg _) hget rfl ?_;conv=>whnf
    refine⟨Nat.le_of_ble_eq_true rfl,?_⟩;conv=>whnf
    refine step_elem (Int.natCast_nonneg _) hget rfl ?_;conv=>whnf
    refine⟨Nat.le_of_ble_eq_true rfl,?_⟩;conv=>whnf
    refine⟨Int.le_refl 0,?_⟩;conv=>whnf
    refine⟨rfl,?_⟩;conv=>whnf
    refine app1 rfl ?_;conv=>whnf
    exact inv_of [(5,.lst (l.map dV.av) .none),(7,.lst (l.map dV.av) .none),(9,.lst (XS ++[wK (vn,.mk tk tn tns tl)]) (bA (XS ++[wK (vn,.mk tk tn tns tl)]).length 0)),(10,.lst (XS ++[wK (vn,.mk tk tn tns tl)]) (bA (XS ++[wK (vn,.mk tk tn tns tl)]).length 1)),(11,.int .i64 (j+1:Nat))] ⟨rfl,rfl,rfl,rfl,add1 (by omega),trivial⟩ (hnext _)
 exact inv_of [(5,.lst (l.map dV.av) .none),(7,.lst (l.map dV.av) .none),(9,.lst [] .nil),(10,.lst [] .nil),(11,.int .i64 0)] ⟨rfl,rfl,rfl,rfl,rfl,trivial⟩ (key l.length 0 [] _ rfl (Nat.zero_le _) rfl (Nat.zero_le _))
end Go.Ag
/- How many parts a type is spread to, by sizes; environments of small definitions; what a type stands for. -/
namespace Go.Ag
open Go
variable {T : Tab} {L : Lnk} {by_ : List (Bytes × TA)} {e : d9} {C : List TA}
theorem Gg (l:List TA):szL l=(l.map szT).sum:=by
 induction l with
 |nil=>rfl
 |cons t l ih=>rw[fG,List.map_cons,List.sum_cons,ih]
theorem O3 (t:TA):szL (fu t)≤szT t:=by
 obtain⟨k,nm,ns,l⟩:=t;unfold fu;split
 ·rw[pO];exact Nat.le_succ _
 ·rw[fG];exact Nat.le_refl _
theorem Le (a b:List TA):szL (a ++b)=szL a+szL b:=by simp[Gg]
theorem U2 (l:List TA):szL (aP l)≤szL l:=by
 induction l with
 |nil=>exact Nat.le_refl _
 |cons t l ih=>
  have h1:aP (t::l)=fu t ++aP l:=by unfold aP;rw[List.flatMap_cons]
  rw[h1,Le,fG];have:=O3 t;omega
theorem O1 (l:List TA):szL (gZ l)≤szL l:=by
 unfold gZ;rw[Gg,List.map_map];have h1:=Af (fun p:TA×Bytes=>szT p.1) (Kr (mF (eY l)));have h2:=((ni (eY l)).map fun p:TA×Bytes=>szT p.1).sum_nat
 have h3:((eY l).map fun p:TA×Bytes=>szT p.1).sum=szL l:=by
  unfold eY;rw[List.map_map,Gg];rfl
 have h4:((gB (mF (eY l))).map (szT∘fun x=>x.1)).sum=((gB (mF (eY l))).map fun p:TA×Bytes=>szT p.1).sum:=rfl;omega
theorem O0 (l:List TA):szT (mD l)≤1+szL l:=by
 rw[o7];have hf:=U2 l;split
 ·rename_i t h
  have:=Gh (List.mem_of_find?_eq_some h);omega
 ·have h2:=O1 (aP l)
  unfold ow;split
  ·rename_i t h
   rw[h,fG]at h2;omega
  ·rw[pO];omega
theorem Ng :∀(n:Nat) (t:TA),wtT t≤n→szT (aU t)≤szT t
 |0,t,h=>by have:=BP t;omega
 |n+1,t,h=>by
  obtain⟨k,nm,ns,l⟩:=t
  have hl:∀m:List TA,(∀t∈m,wtT t≤n)→szL (bX m)≤szL m:=fun m=>by
   induction m with
   |nil=>intro _;exact Nat.le_refl _
   |cons t m ih=>
    intro hm;rw[bX,fG,fG];have h1:=Ng n t (hm t (by simp));have h2:=ih fun x hx=>hm x (by simp[hx])
    omega
  have h2:=hl l fun t ht=>by
   have h3:=gY ht;rw[wtT]at h;omega
  rw[aU,pO];split
  ·have:=O0 (bX l)
   omega
  ·rw[pO];omega
theorem Ir (t:TA):szT (aU t)≤szT t:=Ng _ t (Nat.le_refl _)
def jS (f:Bytes→Nat):List Bytes→Nat
 |[]=>1
 |a::l=>f a*jS f l
theorem LC {f:Bytes→Nat} {l m:List Bytes} (h:l.Perm m):jS f l=jS f m:=by
 induction h with
 |nil=>rfl
 |cons a h ih=>rw[jS,jS,ih]
 |swap a b l=>rw[jS,jS,jS,jS,←Nat.mul_assoc,←Nat.mul_assoc,Nat.mul_comm (f b)]
 |trans _ _ h1 h2=>exact h1.trans h2
theorem EO {f:Bytes→Nat} (hf:∀a,1≤f a):∀l,1≤jS f l
 |[]=>Nat.le_refl _
 |a::l=>Nat.mul_pos (hf a) (EO hf l)
theorem EC (hE:l7 by_ e) (hnd:(by_.map (·.1)).Nodup):∀n,
  (∀(P Q:List Bytes) (t:TA) (ys:List TA),(by_.map (·.1)).Perm (P ++Q)→(∀p∈P,∀r∈jr t,qQ by_ (dO by_ p) r)→bK e n t=some ys→ys.length≤szT t*jS (fun p=>szT (dO by_ p)) Q)∧
  (∀(P Q:List Bytes) (l:List TA) (ys:List TA),(by_.map (·.1)).Perm (P ++Q)→(∀p∈P,∀r∈vC l,qQ by_ (dO by_ p) r)→bP e n l=some ys→ys.length≤szL l*jS (fun p=>szT (dO by_ p)) Q)
 |0=>⟨fun P Q t ys _ _ h=>(by rw[bK]at h;cases h),fun P Q l ys _ _ h=>(by rw[bP]at h;cases h)⟩
 |n+1=>by
  obtain⟨h1,h2⟩:=EC hE hnd n;have hpos:∀Q,1≤jS (fun p=>szT (dO by_ p)) Q:=EO fun a=>Gf _
  have hone:∀(t:TA) Q,1≤szT t*jS (fun p=>szT (dO by_ p)) Q:=fun t Q=>Nat.mul_pos (Gf t) (hpos Q)
  refine⟨fun P Q t ys hperm hlead h=>?_,fun P Q l ys hperm hlead h=>?_⟩
  ·obtain⟨k,nm,ns,l⟩:=t
   have h0:=hone (.mk k nm ns l) Q;rw[jr]at hlead;rw[bK]at h;split at h
   ·rename_i h8
    rw[if_pos h8]at hlead;split at h
    ·cases h;simp only[List.length_singleton];exact h0
    ·rename_i he
     have hne:¬qW by_ nm:=fun h=>he ((oh hE hnd nm).2 h)
     have hdef:(by_.find? (·.1==nm)).isSome=true:=by
      cases hd:(by_.find? (·.1==nm)).isSome
      ·exact absurd (.inl hd) hne
      ·rfl
     have hkey:=J8 hdef;have hnP:nm∉P:=fun hm=>hne (.inr (hlead nm hm nm (by simp)))
     have hQ:nm∈Q:=by
      rcases List.mem_append.1 (hperm.mem_iff.1 hkey)with h|h
      ·exact absurd h hnP
      ·exact h
     rw[yX,hE.hby]at h;have hp2:(by_.map (·.1)).Perm ((nm::P) ++Q.erase nm):=hperm.trans ((List.Perm.append_left P (List.perm_cons_erase hQ)).trans List.perm_middle)
     have:=h1 (nm::P) (Q.erase nm) (dO by_ nm) ys hp2 (fun p hp r hr=>by
      rcases List.mem_cons.1 hp with rfl|hp
      ·exact .here _ _ hr
      ·exact(hlead p hp nm (by simp)).trans (.here _ _ hr)) h
     rw[LC (List.perm_cons_erase hQ),jS];refine Nat.le_trans this ?_;exact Nat.le_mul_of_pos_left _ (Gf _)
   ·rename_i h8
    rw[if_neg h8]at hlead;split at h
    ·rename_i h7
     rw[if_pos h7]at hlead;have:=h2 P Q l ys hperm hlead h;refine Nat.le_trans this (Nat.mul_le_mul_right _ ?_);rw[pO];exact Nat.le_succ _
    ·cases h;simp only[List.length_singleton];exact h0
  ·cases l with
   |nil=>rw[bP]at h;cases h;simp
   |cons t l=>
    rw[bP]at h
    cases hx:bK e n t with
    |none=>rw[hx]at h;cases h
    |some xs=>
     cases hr:bP e n l with
     |none=>rw[hx,hr]at h;cases h
     |some zs=>
      rw[hx,hr]at h;cases h;have k1:=h1 P Q t xs hperm (fun p hp r hr=>hlead p hp r (by rw[vC];exact List.mem_append_left _ hr)) hx;have k2:=h2 P Q l zs hperm (fun p hp r hr=>hlead p hp r (by rw[vC];exact List.mem_append_right _ hr)) hr;rw[fG,List.length_append,Nat.add_mul];exact Nat.add_le_add k1 k2
theorem x_le :∀x:Nat,4*x*7^x≤11*8^x:=fun x=>by
 by_cases h:x<8
 ·have:∀x,x<8→4*x*7^x≤11*8^x:=by decide
  exact this x h
 ·obtain⟨k,rfl⟩:∃k,x=8+k:=⟨x-8,by omega⟩
  clear h
  induction k with
  |zero=>decide
  |succ k ih=>
   rw[←Nat.add_assoc,Nat.pow_succ,Nat.pow_succ];generalize 7^(8+k)=a at ih⊢;generalize 8^(8+k)=b at ih⊢
   have h1:4*(8+k+1)*(a*7)=4*(7*(8+k+1))*a:=by
    rw[Nat.mul_comm a 7,←Nat.mul_assoc,Nat.mul_assoc 4,Nat.mul_comm (8+k+1) 7]
   have h2:4*(7*(8+k+1))*a≤4*(8*(8+k))*a:=Nat.mul_le_mul_right _ (by omega)
   have h3:4*(8*(8+k))*a=8*(4*(8+k)*a):=by
    rw[←Nat.mul_assoc 4,Nat.mul_comm 4 8,Nat.mul_assoc 8,Nat.mul_assoc 8]
   omega
theorem Nr (f:Bytes→Nat):∀l:List Bytes,4^l.length*7^(l.map f).sum*jS f l≤11^l.length*8^(l.map f).sum
 |[]=>by simp[jS]
 |a::l=>by
  have h1:=x_le (f a)
  have h2:=Nr f l
  rw[List.length_cons,List.map_cons,List.sum_cons,jS,Nat.pow_succ,Nat.pow_succ,Nat.pow_add,Nat.pow_add]
  have:=Nat.mul_le_mul h1 h2
  generalize 4^l.length=a1 at*
  generalize 7^(l.map f).sum=a2 at*
  generalize 11^l.length=a3 at*
  generalize 8^(l.map f).sum=a4 at*
  generalize jS f l=a5 at*
  generalize 7^f a=a6 at*
  generalize 8^f a=a7 at*
  generalize f a=x at*
  calc a1*4*(a6*a2)*(x*a5)=4*x*a6*(a1*a2*a5):=by simp only[Nat.mul_assoc,Nat.mul_comm,Nat.mul_left_comm]
   _≤11*a7*(a3*a4):=this
   _=a3*11*(a7*a4):=by simp only[Nat.mul_assoc,Nat.mul_comm,Nat.mul_left_comm]
theorem Vo (f:Bytes→Nat) (l:List Bytes) (hl:l.length≤8) (hs:(l.map f).sum≤60):jS f l≤10000000:=by
 have h:=Nr f l;obtain⟨a,ha⟩:∃a,l.length+a=8:=⟨8-l.length,by omega⟩;obtain⟨b,hb⟩:∃b,(l.map f).sum+b=60:=⟨60-(l.map f).sum,by omega⟩;have h4:4^a≤11^a:=Nat.pow_le_pow_left (by decide) a;have h7:7^b≤8^b:=Nat.pow_le_pow_left (by decide) b;have h2:=Nat.mul_le_mul (Nat.mul_le_mul h4 h7) h
 have e1:4^a*7^b*(4^l.length*7^(l.map f).sum*jS f l)=4^8*7^60*jS f l:=by
  rw[←ha,←hb,Nat.pow_add,Nat.pow_add];simp only[Nat.mul_assoc,Nat.mul_comm,Nat.mul_left_comm]
 have e2:11^a*8^b*(11^l.length*8^(l.map f).sum)=11^8*8^60:=by
  rw[←ha,←hb,Nat.pow_add,Nat.pow_add];simp only[Nat.mul_assoc,Nat.mul_comm,Nat.mul_left_comm]
 rw[e1,e2]at h2;rcases Nat.lt_or_ge 10000000 (jS f l)with h3|h3
 ·have h5:4^8*7^60*10000000≤4^8*7^60*jS f l:=Nat.mul_le_mul_left _ (Nat.le_of_lt h3)
  have h6:¬(4^8*7^60*10000000≤11^8*8^60):=by decide
  exact absurd (Nat.le_trans h5 h2) h6
 ·exact h3
end Go.Ag
/- Environments of small definitions; what a type stands for, and its text. -/
namespace Go.Ag
open Go
variable {T : Tab} {L : Lnk} {by_ : List (Bytes × TA)} {e : d9} {C : List TA}
theorem Iy :∀(n:Nat) (t:TA),wtT t≤n→iO t=allT t
 |0,t,h=>by have:=BP t;omega
 |n+1,t,h=>by
  obtain⟨k,nm,ns,l⟩:=t;rw[wtT]at h
  have:∀m:List TA,(∀t∈m,wtT t≤n)→uq m=Ab m:=fun m=>by
   induction m with
   |nil=>intro _;rfl
   |cons t m ih=>intro hm;rw[uq,Ab,Iy n t (hm t (by simp)),ih fun x hx=>hm x (by simp[hx])]
  rw[iO,allT,this l fun t ht=>by have:=gY ht;omega]
theorem Iw (t:TA):(iO t).length=szT t:=by rw[Iy _ t (Nat.le_refl _)];rfl
theorem Nh :∀(n:Nat) (t:TA),wtT t≤n→∀x∈iO t,szT x≤szT t
 |0,t,h=>by have:=BP t;omega
 |n+1,t,h=>by
  obtain⟨k,nm,ns,l⟩:=t;intro x hx;rw[iO]at hx;rcases List.mem_cons.1 hx with rfl|hx
  ·exact Nat.le_refl _
  ·obtain⟨u,hu,hx⟩:=rz.1 hx
   rw[wtT]at h;have h1:=Nh n u (by have:=gY hu;omega) x hx;have h2:=Gh hu;rw[pO];omega
theorem SL (hE:l7 by_ e) (hnd:(by_.map (·.1)).Nodup) (bs:List TA) (hb:∀p∈by_,p.2∈bs) (hn:∀t∈bs,NT t) (hw:∀t∈bs,wtT t≤2^30) (hz:∀t∈bs,szT t≤100) (hl:bs.length≤2^10)
  (hbl:by_.length≤8) (hbs:(by_.map fun p=>szT p.2).sum≤60):kS by_ e (bs.flatMap iO)where
 ok:=hE
 nodup:=hnd
 mem:=fun p hp=>List.mem_flatMap.2 ⟨p.2,hb p hp,ru _⟩
 nt:=fun t ht=>by
  obtain⟨b,hb,ht⟩:=List.mem_flatMap.1 ht;exact Ni _ b (Nat.le_refl _) (hn b hb) t ht
 cl:=fun t ht x hx=>by
  obtain⟨b,hb,ht⟩:=List.mem_flatMap.1 ht;exact List.mem_flatMap.2 ⟨b,hb,((yh _ b (Nat.le_refl _)).1 t ht).2 x hx⟩
 wt:=fun t ht=>by
  obtain⟨b,hb,ht⟩:=List.mem_flatMap.1 ht;exact Nat.le_trans ((yh _ b (Nat.le_refl _)).1 t ht).1 (hw b hb)
 fin:=by
  have:∀(l:List TA),(∀t∈l,szT t≤100)→(l.flatMap iO).length≤l.length*100:=by
   intro l
   induction l with
   |nil=>intro _;simp
   |cons t l ih=>
    intro h;rw[List.flatMap_cons,List.length_append,List.length_cons,Nat.add_mul,Iw];have h2:=h t (by simp);have h3:=ih fun x hx=>h x (by simp[hx])
    omega
  have h1:=this bs hz;omega
 XT:=fun t ht=>by
  obtain⟨b,hb',ht⟩:=List.mem_flatMap.1 ht;have h1:=Nh _ b (Nat.le_refl _) t ht;have h2:=hz b hb';obtain⟨n,hs⟩:=zx hE hnd t;have h3:=(EC hE hnd n).1 [] (by_.map (·.1)) t _ (List.Perm.refl _) (fun p hp=>by cases hp) hs
  have h4:((by_.map (·.1)).map fun p=>szT (dO by_ p)).sum≤60:=by
   rw[List.map_map,show by_.map ((fun p=>szT (dO by_ p))∘(·.1))=by_.map fun p=>szT p.2 from List.map_congr_left fun p hp=>by
    show szT (dO by_ p.1)=_
    rw[zM hnd hp]]
   exact hbs
  have h5:=Vo (fun p=>szT (dO by_ p)) (by_.map (·.1)) (by rw[List.length_map];exact hbl) h4;have h6:=Nat.mul_le_mul (Nat.le_trans h1 h2) h5;omega
theorem Lh :∀{l m:List TA},l.Pairwise (fun a b=>prT a 0<prT b 0)→m.Pairwise (fun a b=>prT a 0<prT b 0)→(∀x,x∈l↔x∈m)→l=m:=fun{l m} hl hm h=>by
 have nd:∀{l:List TA},l.Pairwise (fun a b=>prT a 0<prT b 0)→l.Nodup:=fun h=>h.imp fun h e=>by rw[e]at h;exact List.lt_irrefl _ h
 have hp:l.Perm m:=(List.perm_ext_iff_of_nodup (nd hl) (nd hm)).2 h;refine List.Perm.eq_of_pairwise (le:=fun a b=>prT a 0<prT b 0) (fun a b _ _ h1 h2=>absurd (List.lt_trans h1 h2) (List.lt_irrefl _)) hl hm hp
theorem LP {l m:List TA} (hl:∀t∈l,NT t) (hm:∀t∈m,NT t) (h:∀x,x∈l↔x∈m):gZ l=gZ m:=
 Lh (lC l) (lC m) fun x=>by rw[sQ hl,sQ hm,h]
open Classical in
theorem Sw {l:List TA} (h:∀t∈l,NT t∧t.kind≠7):l.find? (fun t=>t.kind==4)=if dH∈l then some dH else none:=by
 cases hd:l.find? (fun t=>t.kind==4)with
 |some t=>
  have h4:t.kind=4:=by simpa using List.find?_some (p:=fun t:TA=>t.kind==4) hd
  have hm:=List.mem_of_find?_eq_some hd;have:=(h t hm).1.Dz h4;subst this;rw[if_pos hm]
 |none=>
  rw[if_neg fun hm=>List.find?_eq_none.1 hd dH hm rfl]
open Classical in
theorem join_eq {l:List TA} (h:∀t∈l,NT t∧t.kind≠7) (h0:l≠[]):lF l=if dH∈l then dH else ow (gZ l):=by
 rw[Da h h0,Sw h]
 by_cases hd:dH∈l
 ·rw[if_pos hd,if_pos hd]
 ·rw[if_neg hd,if_neg hd]
open Classical in
theorem Mg {l m:List TA} (hl:∀t∈l,NT t∧t.kind≠7) (hm:∀t∈m,NT t∧t.kind≠7) (l0:l≠[]) (m0:m≠[]) (hd:dH∈l↔dH∈m) (h:dH∉l→∀x,x∈l↔x∈m):lF l=lF m:=by
 rw[join_eq hl l0,join_eq hm m0]
 by_cases hx:dH∈l
 ·rw[if_pos hx,if_pos (hd.1 hx)]
 ·rw[if_neg hx,if_neg fun h=>hx (hd.2 h),LP (fun t ht=>(hl t ht).1) (fun t ht=>(hm t ht).1) (h hx)]
theorem kS.JN {T:Tab} (W:kS by_ e C) (F:xY T) {t:TA} (ht:GC' C t):EK T.L 149 [t.av] e (.lst (TA.avs (hdE e t)) .none):=by
 obtain⟨n,h1,h2,h3⟩:=W.some _ ht.2.2
 have hE:∀p∈e.by_,wtT p.2≤2^40:=fun p hp=>by
  rw[W.ok.hby]at hp;have:=W.wt _ (W.mem p hp);omega
 have hw:∀y∈Cj e (aU t),wtT y≤2^30:=fun y hy=>by
  rcases W.spr ((rC W.ok W.nodup _ _).1 hy) ht.2.2 with rfl|h'
  ·decide
  ·exact W.wt y h'
 have hl:=W.XT _ ht.2.2;have hok:=Jp (fun y hy=>(h3 y hy).1) hl hw (by rw[Dp fun y hy=>(h3 y hy).2.1];exact hl);have:=Mq F e hE n t _ h1 hl (GI ht.1 ht.2.1) (by have:=qZ t;have:=ht.2.1;omega) hok;rw[Mr (fun y hy=>⟨(h3 y hy).1,(h3 y hy).2.1⟩) h2]at this;exact this
structure EnvS (by_:List (Bytes×TA)) (e:d9) (C:List TA):Prop extends kS by_ e C where
 few:C.length≤1600
 wee:∀t∈C,wtT t≤2^19
theorem QI {l:List TA} {m:Nat} (h:∀t∈l,wtT t≤m):wtL l≤l.length*(m+8):=by
 induction l with
 |nil=>simp[wtL]
 |cons t l ih=>
  rw[wtL,List.length_cons,Nat.add_mul];have h1:=h t (by simp);have h2:=ih fun x hx=>h x (by simp[hx])
  omega
theorem EnvS.U1 {T:Tab} (F:xR T) {u:TA} (hn:NT u) (hw:wtT u≤2^30):Pure T.L 150 [u.av] (.str (prT u 0)):=by
 have:=QC F u (GI hn.gt hw) (by rw[jK hn];omega) (by rw[jK hn];exact hn.wf);rw[jK hn]at this;exact this
end Go.Ag
/- Types of long texts: how much they are by their sizes and their longest name; where heads come from. -/
namespace Go.Ag
open Go
variable {T : Tab} {L : Lnk} {by_ : List (Bytes × TA)} {e : d9} {C : List TA}
mutual
def Nm (m:Nat):TA→Prop
 |.mk k nm ns l=>nm.length≤m∧(∀n∈ns,n.length≤m)∧NmL m l
def NmL (m:Nat):List TA→Prop
 |[]=>True
 |t::l=>Nm m t∧NmL m l
end
theorem XQ (hb:∀p∈by_,NT p.2) {t z:TA} (h:Spr by_ t z):NT t→z=dH∨z∈fu t∨z∈by_.flatMap fun p=>iO p.2:=by
 have hp:∀{t:TA},t.kind≠7→fu t=[t]:=fun h=>if_neg h
 have hs:∀{t x:TA},NT t→x∈fu t→x∈iO t:=fun{t x} hn h=>by
  obtain⟨k,nm,ns,l⟩:=t;unfold fu at h;split at h
  ·exact((yh _ (.mk k nm ns l) (Nat.le_refl _)).1 _ (ru _)).2 x h
  ·rw[List.mem_singleton]at h;subst h;exact ru _
 induction h with
 |self t h7 h8=>exact fun _=>.inr (.inl (by rw[hp h7];simp))
 |part nm ns l x y hx h ih=>
  intro hn;have hxn:=hn.parts x hx
  have hx7:x.kind≠7:=by
   cases hn with
   |uni l h2 h h7 hs=>exact(h7 x hx).1
  rcases ih hxn with h|h|h
  ·exact .inl h
  ·rw[hp hx7,List.mem_singleton]at h
   subst h;exact .inr (.inl (by rw[show fu (.mk 7 nm ns l)=l from if_pos rfl];exact hx))
  ·exact .inr (.inr h)
 |emp nm ns l h=>exact fun _=>.inl rfl
 |ref nm ns l y he h ih=>
  intro _;obtain⟨h1,p,hp1,h2⟩:=yK hb he;rcases ih h1 with h|h|h
  ·exact .inl h
  ·rw[h2]at h h1
   exact .inr (.inr (List.mem_flatMap.2 ⟨p,hp1,hs h1 h⟩))
  ·exact .inr (.inr h)
theorem Er :∀{l B:List TA},l.Nodup→(∀x∈l,x∈B)→wtL l≤wtL B
 |[],B,_,_=>by simp[wtL]
 |t::l,B,hn,h=>by
  open Classical in
  rw[List.nodup_cons]at hn;have hp:=List.perm_cons_erase (h t (by simp));have e:wtL B=wtL (t::B.erase t):=by rw[sj,sj];exact(hp.map _).sum_nat
  rw[e,wtL,wtL]
  have:=Er (l:=l) (B:=B.erase t) hn.2 fun x hx=>by
   refine(List.mem_erase_of_ne fun hxt=>?_).2 (h x (by simp[hx]));subst hxt;exact hn.1 hx
  omega
theorem Rv (l:List (Bytes×TA)):(jh l).length≤l.length∧((jh l).map fun p=>szT p.2).sum≤jd l:=by
 have key:∀(l B:List (Bytes×TA)),(l.foldl om B).length≤B.length+l.length∧((l.foldl om B).map fun p=>szT p.2).sum≤(B.map fun p=>szT p.2).sum+jd l:=fun l=>by
  induction l with
  |nil=>intro B;simp[jd]
  |cons q l ih=>
   intro B;obtain⟨h1,h2⟩:=ih (om B q)
   have h3:(om B q).length≤B.length+1∧((om B q).map fun p=>szT p.2).sum≤(B.map fun p=>szT p.2).sum+szT q.2:=by
    unfold om;have:=Ir q.2;split
    ·omega
    ·rw[List.length_append,List.map_append,List.sum_append_nat];simp;omega
   unfold jd at h2⊢;rw[List.foldl_cons,List.length_cons,List.map_cons,List.sum_cons];omega
 have:=key l [];unfold jh;simpa using this
theorem Xg {m:Nat} (h:∀p∈by_,wtT p.2≤m) (hs:(by_.map fun p=>szT p.2).sum≤60):wtL (by_.flatMap fun p=>iO p.2)≤60*(m+8):=by
 have h1:=QI (l:=by_.flatMap fun p=>iO p.2) (m:=m) fun t ht=>by
  obtain⟨p,hp,ht⟩:=List.mem_flatMap.1 ht;exact Nat.le_trans ((yh _ p.2 (Nat.le_refl _)).1 t ht).1 (h p hp)
 have h2:(by_.flatMap fun p=>iO p.2).length=(by_.map fun p=>szT p.2).sum:=by
  clear h hs h1
  induction by_ with
  |nil=>rfl
  |cons p l ih=>rw[List.flatMap_cons,List.length_append,List.map_cons,List.sum_cons,ih,Iw]
 rw[h2]at h1;exact Nat.le_trans h1 (Nat.mul_le_mul_right _ hs)
end Go.Ag
/- Package cupellaw08: alive. -/
namespace Go.Ag
open Go
variable {T : Tab} {L : Lnk}
end Go.Ag
/- Bodies in pieces: a run is told part by part. -/
namespace Go.Ag
open Go
variable {T : Tab} {L : Lnk}
def JQ :Nat→AC→AC
 |0,_=>.skip
 |n+1,.seq a b=>.seq a (JQ n b)
 |_+1,c=>c
def Ey :Nat→AC→AC
 |0,b=>b
 |n+1,.seq a b=>Ey n b
 |_+1,_=>.skip
theorem vH {P:Env→Heap→Prop} {Q:mV}:∀(n:Nat) (c:AC) (e:Env) (H:Heap),dQ L (JQ n c) e H (sI P Q)→(∀e' H',P e' H'→dQ L (Ey n c) e' H' Q)→dQ L c e H Q
 |0,c,e,H,h,ht=>ht _ _ h
 |n+1,c,e,H,h,ht=>by
  have other:(∀a b,c≠.seq a b)→dQ L c e H Q:=fun hne=>by
   have e1:JQ (n+1) c=c:=by cases c<;>first|rfl|exact absurd rfl (hne _ _)
   have e2:Ey (n+1) c=.skip:=by cases c<;>first|rfl|exact absurd rfl (hne _ _)
   rw[e1]at h;refine lK (fun x e' H' hx=>?_) h
   cases x with
   |normal=>
    have:=ht e' H' hx;rw[e2]at this;exact this
   |_=>exact hx
  cases c with
  |seq a b=>
   have h:dQ L a e H (sI (fun e' H'=>dQ L (JQ n b) e' H' (sI P Q)) (sI P Q)):=h;show dQ L a e H (sI (fun e' H'=>dQ L b e' H' Q) Q);refine lK (fun x e' H' hx=>?_) h
   cases x with
   |normal=>exact vH n b e' H' hx ht
   |_=>exact hx
  |_=>exact other (fun a b=>by simp)
def Rn :Nat→AC→AC
 |0,.seq a _=>a
 |n+1,.seq _ b=>Rn n b
 |_,c=>c
end Go.Ag
/- Package cupellaw08: AliasOrder. -/
namespace Go.Ag
open Go
variable {T : Tab} {L : Lnk}
section congr
variable {b1 b2 : List (Bytes × TA)}
end congr
theorem zm.agree {e:d9} {H H':Heap} {a:Nat} (h:zm e H a) (ha:agree H.length H H'):zm e H' a:=by
 have key:∀{i:Nat} {o:aS},H[i]?=some o→((∀m t,o≠.tail m t)∧∀v xs t,o≠.arr v xs t)→o≠.dead→H'[i]?=some o:=fun{i o} h1 h2 h3=>by
  refine ha.2 i o ?_ h1 h2 h3;rcases Nat.lt_or_ge i H.length with h|h
  ·exact h
  ·rw[List.getElem?_eq_none h]at h1;cases h1
 exact⟨key h.h0 ⟨fun _ _=>by simp,fun _ _ _=>by simp⟩ (by simp),key h.h1 ⟨fun _ _=>by simp,fun _ _ _=>by simp⟩ (by simp),key h.h2 ⟨fun _ _=>by simp,fun _ _ _=>by simp⟩ (by simp)⟩
end Go.Ag
/- Unions: their heads are those of their parts together; Made, wherever it is called. -/
namespace Go.Ag
open Go
variable {T : Tab} {L : Lnk} {by_ : List (Bytes × TA)} {e : d9} {C : List TA}
def uT (x y:TA):TA:=.mk 7 [] [] [x,y]
theorem XB {x y:TA} (hx:GT x) (hy:GT y):GT (uT x y):=.uni _ (by simp) (Mw hx hy)
theorem kS.Sb (W:kS by_ e C) {t:TA} (ht:GC' C t):(∀y∈hdE e t,NT y∧y.kind≠7)∧hdE e t≠[]:=by
 obtain⟨n,h1,h2,h3⟩:=W.some _ ht.2.2;refine⟨fun y hy=>⟨(W.Ms ht hy).1,?_⟩,?_⟩
 ·rcases W.head ht hy with rfl|h
  ·decide
  ·exact h.2.1
 ·unfold hdE mM
  split
  ·simp
  ·exact vM h2
theorem Xr (F:zi T) (src:Bytes) (hs:src.length≤600) (H:Heap):aC T.L 147 [.str src] H fun r H'=>∃e o0 o1,l7 (jh (gN src)) e∧r=.ret (.tup [.ptr (H.length+4) 0,.lst (gy (gN src)) .none,.bool (decide ((gN src).length≤8))])∧
  H'=H ++[o0,o1,.map (bZ e.by_ 0) e.by_.length,.map (gH e.empty 0) e.empty.length,.cells [.map (H.length+2),.map (H.length+3)] 234]:=by
 have hp:Part H [] []:=⟨by simp,rfl,fun k i o hk=>by cases hk⟩;have hf:=aC.nD (QD F src hs) [] hp (.inr fun r H' _=>Nat.zero_le _);refine hf.mono fun r H' ⟨r1,H1,⟨e,o0,o1,h1,l0,l1,h2,h3⟩,_,h4,h5⟩=>⟨e,o0,o1,h1,?_,?_⟩
 ·rw[h4,h2]
  simp only[zB]
  congr 1
  simp only[ren,iG];rw[jE (Nat.zero_le _)]
  congr 2
  have:=ku (ρ:=nameOf [] H.length) (show Low 0 (au.lst (gy (gN src)) .none)from .lst _ _ trivial (rR 0 _));simp only[ren]at this;rw[this]
 ·rw[h5,h3]
  simp only[List.length_nil,List.take_zero,List.map_nil,List.drop_zero,l8]
  congr 1
  simp only[List.map_cons,List.map_nil];rw[eG l0,eG l1,eG (show bF 0 (.map (bZ e.by_ 0) e.by_.length)from fC 0 _ _),eG (show bF 0 (.map (gH e.empty 0) e.empty.length)from gG 0 _ _)];simp only[jA,iG,ren];rw[jE (Nat.zero_le _),jE (Nat.zero_le _)];rfl
theorem QE (F:zi T) (src:Bytes) (hs:600<src.length):Pure T.L 147 [.str src] (.tup [.fA,.lst [] .nil,.bool false]):=by
 refine Pure.run (dF (.str _)) (.tup _ (gD.at ⟨.fA,.lst _ _ trivial fP,.bool _,trivial⟩)) (aG F.Sk (by simp[Oy]) ?_);have h1:decide ((src.length:Int)>600)=true:=decide_eq_true (by omega);conv=>whnf
 rw[h1];conv=>whnf
 exact aH (Weak.refl _)
end Go.Ag
/- Package cupellaw08: AliasUnions. -/
namespace Go.Ag
open Go
variable {T : Tab} {L : Lnk}
theorem Yr {by_:List (Bytes×TA)} {e:d9} {C:List TA} (W:kS by_ e C) {t:TA} (ht:GC' C t):(hdE e t).length≤2^29:=by
 have hh:=fun h hh=>W.head (h:=h) ht hh
 have hf:=W.fin
 have:(hdE e t).Nodup:=by
  unfold hdE mM;split
  ·simp
  ·exact(lC _).imp fun h e=>by rw[e]at h;exact List.lt_irrefl _ h
 have h1:(hdE e t).length≤(dH::C).length:=this.length_le_of_subset fun x hx=>by
  rcases hh x hx with rfl|h
  ·simp
  ·simp[h.1]
 rw[List.length_cons]at h1;omega
end Go.Ag
/- Types asked about under a source's definitions; what the heads of a type give (package parts), in plain lists. -/
namespace Go.Ag
open Go
variable {by_ : List (Bytes × TA)} {e : d9} {C : List TA}
theorem JR (e:d9) (t:TA):(hdE e t).Nodup:=by
 unfold hdE mM;split
 ·simp
 ·exact(lC _).imp fun h e=>by rw[e]at h;exact List.lt_irrefl _ h
theorem XH {D:List (Bytes×TA)} {ts:List TA} (hD:∀p∈D,jM p.1∧GT p.2∧wtT p.2≤2^19) (hl:D.length≤8) (hz:jd D≤60) (hts:∀t∈ts,GT t∧wtT t≤2^22∧szT t≤100) (hn:ts.length≤1000) (hE:l7 (jh D) e):
  ∃C,kS (jh D) e C∧(∀t∈ts,GC' C t)∧∀t∈ts,wtL (hdE e t)≤2^26:=by
 obtain⟨n1,n2⟩:=Rv D
 have hb:∀p∈jh D,NT p.2∧wtT p.2≤2^19:=fun p hp=>by
  obtain⟨q,hq,rfl⟩:=E8 hp;have:=qZ q.2;exact⟨uL (hD q hq).2.1,Nat.le_trans this (hD q hq).2.2⟩
 have hsum:((jh D).map fun p=>szT p.2).sum≤60:=Nat.le_trans n2 hz
 have hone:∀p∈jh D,szT p.2≤60:=fun p hp=>by
  refine Nat.le_trans ?_ hsum
  have:∀{l:List (Bytes×TA)},p∈l→szT p.2≤(l.map fun p=>szT p.2).sum:=fun{l} h=>by
   induction l with
   |nil=>cases h
   |cons a l ih=>
    rw[List.map_cons,List.sum_cons];rcases List.mem_cons.1 h with rfl|h
    ·omega
    ·have:=ih h;omega
  exact this hp
 obtain⟨bs,hbs⟩:∃bs,bs=(jh D).map (·.2) ++ts.map aU:=⟨_,rfl⟩
 have hin:∀b∈bs,NT b∧wtT b≤2^30∧szT b≤100:=fun b h=>by
  rw[hbs]at h;rcases List.mem_append.1 h with h|h
  ·obtain⟨p,hp,rfl⟩:=List.mem_map.1 h
   have:=hone p hp;exact⟨(hb p hp).1,Nat.le_trans (hb p hp).2 (by decide),by omega⟩
  ·obtain⟨t,ht,rfl⟩:=List.mem_map.1 h
   obtain⟨k1,k2,k3⟩:=hts t ht;exact⟨uL k1,Nat.le_trans (qZ t) (Nat.le_trans k2 (by decide)),Nat.le_trans (Ir t) k3⟩
 have W:kS (jh D) e (bs.flatMap iO):=SL hE (Av D) bs (fun p hp=>by rw[hbs];exact List.mem_append_left _ (List.mem_map.2 ⟨p,hp,rfl⟩)) (fun t ht=>(hin t ht).1) (fun t ht=>(hin t ht).2.1) (fun t ht=>(hin t ht).2.2)
  (by rw[hbs,List.length_append,List.length_map,List.length_map];omega) (by omega) hsum
 have hc:∀t∈ts,GC' (bs.flatMap iO) t:=fun t ht=>gc_of (hts t ht).1 (Nat.le_trans (hts t ht).2.1 (by decide)) (by rw[hbs];exact List.mem_append_right _ (List.mem_map.2 ⟨t,ht,rfl⟩))
 refine⟨_,W,hc,fun t ht=>?_⟩;have h1:=Xg (m:=2^19) (fun p hp=>(hb p hp).2) hsum;have h2:=BO (aU t);have h3:=qZ t;have h4:wtT dH=16:=rfl;have h5:=(hts t ht).2.1
 have h6:=Er (B:=dH::(fu (aU t) ++(jh D).flatMap fun p=>iO p.2)) (JR e t) fun z hz=>by
  rcases(W.uN (hc t ht)).1 hz with h|h
  ·rw[h.2];simp
  ·rcases XQ (fun p hp=>(hb p hp).1) h.2 (uL (hts t ht).1)with h|h|h
   ·subst h;simp
   ·simp[h]
   ·exact List.mem_cons_of_mem _ (List.mem_append_right _ h)
 rw[wtL,xg]at h6;omega
def qg (part:TA→Option TA):List TA→List TA→List TA×Nat
 |acc,[]=>(acc,0)
 |acc,h::hs=>if h.kind=4 then([],1)else match part h with
  |none=>([],2)
  |some x=>qg part (acc ++[x]) hs
def eT (nm:Bytes) (h:TA):Option TA:=if h.kind=5 then(if nm∈h.names then h.l[uQ h.names nm]? else none)else none
def gives (part:TA→Option TA) (hs:List TA):TA×Nat:=if(qg part [] hs).2=0 then(lF (qg part [] hs).1,0)else(dH,(qg part [] hs).2)
theorem zX {part:TA→Option TA}:∀(hs acc:List TA),(∀h∈hs,h.kind≠4)→(∀h∈hs,(part h).isSome=true)→qg part acc hs=(acc ++hs.filterMap part,0)
 |[],acc,_,_=>by simp[qg]
 |h::hs,acc,h4,hp=>by
  rw[qg,if_neg (h4 h (by simp))];have:=hp h (by simp)
  cases hx:part h with
  |none=>rw[hx]at this;cases this
  |some x=>
   show qg part (acc ++[x]) hs=_;rw[zX hs _ (fun t ht=>h4 t (by simp[ht])) (fun t ht=>hp t (by simp[ht])),List.filterMap_cons,hx];simp
theorem Dy {part:TA→Option TA}:∀(hs acc:List TA),(∀h∈hs,h.kind≠4)→(∃h∈hs,part h=none)→qg part acc hs=([],2)
 |[],acc,_,h=>by obtain⟨x,h,_⟩:=h;cases h
 |h::hs,acc,h4,hp=>by
  rw[qg,if_neg (h4 h (by simp))]
  cases hx:part h with
  |none=>rfl
  |some x=>
   refine Dy hs _ (fun t ht=>h4 t (by simp[ht])) ?_;obtain⟨t,ht,hn⟩:=hp;rcases List.mem_cons.1 ht with rfl|ht
   ·rw[hx]at hn;cases hn
   ·exact⟨t,ht,hn⟩
theorem zU {part:TA→Option TA} {hs:List TA} (h4:∀h∈hs,h.kind≠4):(gives part hs=(lF (hs.filterMap part),0)∧∀h∈hs,(part h).isSome=true)∨(gives part hs=(dH,2)∧∃h∈hs,part h=none):=by
 by_cases h:∃h∈hs,part h=none
 ·right
  unfold gives;rw[Dy hs [] h4 h];exact⟨rfl,h⟩
 ·left
  have hp:∀x∈hs,(part x).isSome=true:=fun x hx=>by
   cases hn:part x with
   |none=>exact absurd ⟨x,hx,hn⟩ h
   |some _=>rfl
  unfold gives;rw[zX hs [] h4 hp];exact⟨rfl,hp⟩
theorem Yo (W:kS by_ e C) {x y:TA} (hx:GC' C x) (hy:GC' C y) (hu:GC' C (uT x y)):
  ((dH∈hdE e x∨dH∈hdE e y)→hdE e (uT x y)=[dH])∧(dH∉hdE e x→dH∉hdE e y→∀z,z∈hdE e (uT x y)↔z∈hdE e x∨z∈hdE e y):=by
 have hj:=IE (by_:=by_) (Mw hx.1 hy.1) (by simp);have h2:∀{P:TA→Prop},(∃t∈[x,y],P t)↔P x∨P y:=fun{P}=>by simp
 rw[h2]at hj;have hd:∀{t:TA},GC' C t→(dH∈hdE e t↔Spr by_ (aU t) dH):=fun{t} ht=>by rw[W.uN ht];exact⟨fun h=>h.elim (fun h=>h.1) fun h=>h.2,fun h=>.inl ⟨h,rfl⟩⟩
 rw[hd hx,hd hy];constructor
 ·intro h
  have h1:Spr by_ (aU (uT x y)) dH:=hj.1.2 h;unfold hdE mM;rw[if_pos];exact List.any_eq_true.2 ⟨dH,(rC W.ok W.nodup _ _).2 h1,rfl⟩
 ·intro n1 n2 z
  have hn:¬(Spr by_ (aU x) dH∨Spr by_ (aU y) dH):=fun h=>h.elim n1 n2
  have h1:=hj.2 hn z;rw[h2]at h1;have h3:¬Spr by_ (aU (uT x y)) dH:=fun h=>hn (hj.1.1 h)
  rw[W.uN hu,W.uN hx,W.uN hy];simp only[h3,n1,n2,false_and,not_false_eq_true,true_and,false_or];exact h1
theorem Yt (W:kS by_ e C) {x:TA} (hx:GC' C x) (h:dH∈hdE e x):hdE e x=[dH]:=by
 have h1:Spr by_ (aU x) dH:=by rw[W.uN hx]at h;exact h.elim (fun h=>h.1) fun h=>h.2
 unfold hdE mM;rw[if_pos];exact List.any_eq_true.2 ⟨dH,(rC W.ok W.nodup _ _).2 h1,rfl⟩
end Go.Ag
/- Abstract codes, printed by a program of ours (acode.py) out of the given program's form. -/
namespace Go.Ag
open Go
def vw :aN:=(.mk 3 126 [6] (.seq (.ops [(.d 6 (.mv (.const (.bool false))))]) (.seq (.seq (.ops [(.d 19 (.call 154 [])),(.d 20 (.un .not 19))]) (.cond 20 (.seq (.ops [(.d 6 (.mv (.const (.bool false))))]) .ret) .skip)) (.seq (.seq (.ops [(.d 21 (.mv 1)),(.d 22 (.iw 21)),(.d 23 (.bin .gtr 22 (.const (.i 4)))),(.d 24 (.mv 23)),(.g 25 (.mv 1) 24 false),(.g 26 (.iw 25) 24 false),(.g 27 (.bin .eql 26 (.const (.i 0))) 24 false),(.d 28 (.pick 24 (.const (.bool true)) 27))]) (.cond 28 (.seq (.ops [(.d 6 (.mv (.const (.bool true))))]) .ret) .skip)) (.seq (.ops [(.d 30 (.mv 0)),(.d 31 (.mv 1)),(.d 32 (.call 155 [30,31])),(.d 29 (.mv 32)),(.d 33 (.ext 29 0)),(.d 34 (.ext 29 1)),(.d 35 (.ext 29 2)),(.d 36 (.ext 29 3)),(.d 37 (.ext 29 4)),(.d 7 (.mv 33)),(.d 8 (.mv 34)),(.d 9 (.mv 35)),(.d 10 (.mv 36)),(.d 11 (.mv 37))]) (.seq (.seq (.ops [(.d 38 (.mv 11)),(.d 39 (.un .not 38))]) (.cond 39 (.seq (.ops [(.d 6 (.mv (.const (.bool true))))]) .ret) .skip)) (.seq (.ops [(.d 40 (.build [(.i 0),(.str []),.nl,.nl] [(0,(1,(.const (.i 5))))])),(.d 41 (.build [(.i 0),(.str []),.nl,.nl] [(0,(1,(.const (.i 5))))])),(.d 12 (.alloc [(.i 0),(.str []),.nl,.nl] 175)),(.d 13 (.alloc [(.i 0),(.str []),.nl,.nl] 175)),(.n (.store 4 12 40)),(.n (.store 4 13 41))]) (.seq (.ops [(.d 42 (.mv 2)),(.d 43 (.mP .i64 42)),(.d 44 (.mv 9)),(.d 45 (.iw 44)),(.d 46 (.bin .rem 43 45)),(.d 14 (.mv 46))]) (.seq (.seq (.ops [(.d 15 (.mv (.const (.i 0))))]) (.block 0 (.loop (.seq (.seq (.ops [(.d 47 (.mv 15)),(.d 48 (.mv 9)),(.d 49 (.iw 48)),(.d 50 (.bin .lss 47 49))]) (.cond 50 .skip (.exit 0))) (.seq (.block 1 (.seq (.ops [(.d 53 (.mv 15)),(.d 54 (.bin .add (.const (.i 97)) 53)),(.d 55 (.mP .u8 54)),(.d 56 (.lit 1 1 [] 1 [(0,55)])),(.d 57 (.wu 56)),(.d 16 (.mv 57))]) (.seq (.ops [(.d 58 (.aB 2 12)),(.d 59 (.load none 58)),(.d 60 (.mv 16)),(.d 61 (.lit 1 16 [] 1 [(0,60)])),(.d 62 (.append 1 16 10 59 61)),(.d 63 (.aB 2 12)),(.n (.store 1 63 62))]) (.seq (.draw [(.d 64 (.aB 3 12)),(.d 65 (.load none 64)),(.d 66 (.mv 9)),(.d 67 (.mv 15)),(.d 68 (.bE 4 66 67)),(.d 69 (.load (some 4) 68)),(.d 70 (.lit 4 72 [] 1 [(0,69)]))] [(.d 71 (.append 4 72 175 65 70)),(.d 72 (.aB 3 12)),(.n (.store 1 72 71))]) (.seq (.ops [(.d 73 (.mv 15)),(.d 74 (.mv 14)),(.d 75 (.bin .neq 73 74))]) (.cond 75 (.seq (.ops [(.d 76 (.aB 2 13)),(.d 77 (.load none 76)),(.d 78 (.mv 16)),(.d 79 (.lit 1 16 [] 1 [(0,78)])),(.d 80 (.append 1 16 10 77 79)),(.d 81 (.aB 2 13)),(.n (.store 1 81 80))]) (.draw [(.d 82 (.aB 3 13)),(.d 83 (.load none 82)),(.d 84 (.mv 9)),(.d 85 (.mv 15)),(.d 86 (.bE 4 84 85)),(.d 87 (.load (some 4) 86)),(.d 88 (.lit 4 72 [] 1 [(0,87)]))] [(.d 89 (.append 4 72 175 83 88)),(.d 90 (.aB 3 13)),(.n (.store 1 90 89))])) .skip)))))) (.ops [(.d 51 (.mv 15)),(.d 52 (.bin .add 51 (.const (.i 1)))),(.d 15 (.mv 52))])))))) (.seq (.ops [(.d 91 (.mv 7)),(.d 92 (.load (some 4) 12)),(.d 93 (.load (some 4) 13)),(.d 94 (.lit 4 72 [] 2 [(0,92),(1,93)])),(.d 95 (.build [(.i 0),(.str []),.nl,.nl] [(0,(1,(.const (.i 7)))),(3,(1,94))])),(.d 96 (.call 173 [91,95])),(.d 17 (.mv 96))]) (.seq (.seq (.ops [(.d 97 (.mv 17)),(.d 98 (.iw 97)),(.d 99 (.mv 9)),(.d 100 (.iw 99)),(.d 101 (.bin .sub 100 (.const (.i 1)))),(.d 102 (.bin .neq 98 101))]) (.cond 102 (.seq (.ops [(.d 6 (.mv (.const (.bool false))))]) .ret) .skip)) (.seq (.seq (.ops [(.d 18 (.mv (.const (.i 0))))]) (.block 2 (.loop (.seq (.seq (.ops [(.d 103 (.mv 18)),(.d 104 (.mv 17)),(.d 105 (.iw 104)),(.d 106 (.bin .lss 103 105))]) (.cond 106 .skip (.exit 2))) (.seq (.block 3 (.seq (.draw [(.d 109 (.mv 17)),(.d 110 (.mv 18)),(.d 111 (.bE 1 109 110)),(.d 112 (.load none 111)),(.d 113 (.aB 2 13)),(.d 114 (.load none 113)),(.d 115 (.mv 18)),(.d 116 (.bE 1 114 115)),(.d 117 (.load none 116)),(.d 118 (.bin .neq 112 117))] []) (.cond 118 (.seq (.ops [(.d 6 (.mv (.const (.bool false))))]) .ret) .skip))) (.ops [(.d 107 (.mv 18)),(.d 108 (.bin .add 107 (.const (.i 1)))),(.d 18 (.mv 108))])))))) (.seq (.ops [(.d 119 (.mv 7)),(.d 120 (.load (some 4) 12)),(.d 121 (.call 173 [119,120])),(.d 122 (.iw 121)),(.d 123 (.mv 9)),(.d 124 (.iw 123)),(.d 125 (.bin .eql 122 124)),(.d 6 (.mv 125))]) .ret)))))))))))))
def KI :aN:=(.mk 0 37 [0] (.seq (.ops [(.d 0 (.mv (.const (.bool false))))]) (.seq (.ops [(.d 8 (.call 142 [(.const (.str [123,97,58,32,105,110,116,125,32,124,32,123,97,58,32,98,111,111,108,44,32,98,58,32,105,110,116,125]))])),(.d 7 (.mv 8)),(.d 9 (.ext 7 0)),(.d 10 (.ext 7 1)),(.d 1 (.alloc [(.i 0),(.str []),.nl,.nl] 175)),(.n (.store 4 1 9)),(.d 2 (.mv 10))]) (.seq (.gV [] (.alt (.d 12 (.call 144 [(.const .nl)])) [] (.alt (.d 13 (.load (some 4) 1)) [] (.alt (.d 14 (.call 156 [12,13,(.const (.str [97]))])) [] (.alt (.d 11 (.mv 14)) [] (.alt (.d 15 (.ext 11 0)) [] (.alt (.d 16 (.ext 11 1)) [] (.alt (.d 3 (.alloc [(.i 0),(.str []),.nl,.nl] 175)) [] (.alt (.n (.store 4 3 15)) [] (.alt (.d 4 (.mv 16)) [] .done .stop) .stop) .stop) .stop) .stop) .stop) (.alt (.d 3 (.alloc [(.i 0),(.str []),.nl,.nl] 175)) [] (.alt (.d 14 (.call 156 [12,13,(.const (.str [97]))])) [] (.alt (.d 11 (.mv 14)) [] (.alt (.d 15 (.ext 11 0)) [] (.alt (.d 16 (.ext 11 1)) [] (.alt (.n (.store 4 3 15)) [] (.alt (.d 4 (.mv 16)) [] .done .stop) .stop) .stop) .stop) .stop) .stop) .stop)) (.alt (.d 3 (.alloc [(.i 0),(.str []),.nl,.nl] 175)) [] (.alt (.d 13 (.load (some 4) 1)) [] (.alt (.d 14 (.call 156 [12,13,(.const (.str [97]))])) [] (.alt (.d 11 (.mv 14)) [] (.alt (.d 15 (.ext 11 0)) [] (.alt (.d 16 (.ext 11 1)) [] (.alt (.n (.store 4 3 15)) [] (.alt (.d 4 (.mv 16)) [] .done .stop) .stop) .stop) .stop) .stop) .stop) .stop) .stop)) (.alt (.d 13 (.load (some 4) 1)) [] (.alt (.d 12 (.call 144 [(.const .nl)])) [] (.alt (.d 14 (.call 156 [12,13,(.const (.str [97]))])) [] (.alt (.d 11 (.mv 14)) [] (.alt (.d 15 (.ext 11 0)) [] (.alt (.d 16 (.ext 11 1)) [] (.alt (.d 3 (.alloc [(.i 0),(.str []),.nl,.nl] 175)) [] (.alt (.n (.store 4 3 15)) [] (.alt (.d 4 (.mv 16)) [] .done .stop) .stop) .stop) .stop) .stop) .stop) (.alt (.d 3 (.alloc [(.i 0),(.str []),.nl,.nl] 175)) [] (.alt (.d 14 (.call 156 [12,13,(.const (.str [97]))])) [] (.alt (.d 11 (.mv 14)) [] (.alt (.d 15 (.ext 11 0)) [] (.alt (.d 16 (.ext 11 1)) [] (.alt (.n (.store 4 3 15)) [] (.alt (.d 4 (.mv 16)) [] .done .stop) .stop) .stop) .stop) .stop) .stop) .stop)) (.alt (.d 3 (.alloc [(.i 0),(.str []),.nl,.nl] 175)) [] (.alt (.d 12 (.call 144 [(.const .nl)])) [] (.alt (.d 14 (.call 156 [12,13,(.const (.str [97]))])) [] (.alt (.d 11 (.mv 14)) [] (.alt (.d 15 (.ext 11 0)) [] (.alt (.d 16 (.ext 11 1)) [] (.alt (.n (.store 4 3 15)) [] (.alt (.d 4 (.mv 16)) [] .done .stop) .stop) .stop) .stop) .stop) .stop) .stop) .stop)) (.alt (.d 3 (.alloc [(.i 0),(.str []),.nl,.nl] 175)) [] (.alt (.d 12 (.call 144 [(.const .nl)])) [] (.alt (.d 13 (.load (some 4) 1)) [] (.alt (.d 14 (.call 156 [12,13,(.const (.str [97]))])) [] (.alt (.d 11 (.mv 14)) [] (.alt (.d 15 (.ext 11 0)) [] (.alt (.d 16 (.ext 11 1)) [] (.alt (.n (.store 4 3 15)) [] (.alt (.d 4 (.mv 16)) [] .done .stop) .stop) .stop) .stop) .stop) .stop) .stop) (.alt (.d 13 (.load (some 4) 1)) [] (.alt (.d 12 (.call 144 [(.const .nl)])) [] (.alt (.d 14 (.call 156 [12,13,(.const (.str [97]))])) [] (.alt (.d 11 (.mv 14)) [] (.alt (.d 15 (.ext 11 0)) [] (.alt (.d 16 (.ext 11 1)) [] (.alt (.n (.store 4 3 15)) [] (.alt (.d 4 (.mv 16)) [] .done .stop) .stop) .stop) .stop) .stop) .stop) .stop) .stop)) .stop)))) (.seq (.gV [] (.alt (.d 18 (.call 144 [(.const .nl)])) [] (.alt (.d 19 (.load (some 4) 1)) [] (.alt (.d 20 (.call 156 [18,19,(.const (.str [98]))])) [] (.alt (.d 17 (.mv 20)) [] (.alt (.d 21 (.ext 17 0)) [] (.alt (.d 22 (.ext 17 1)) [] (.alt (.d 5 (.alloc [(.i 0),(.str []),.nl,.nl] 175)) [] (.alt (.n (.store 4 5 21)) [] (.alt (.d 6 (.mv 22)) [] .done .stop) .stop) .stop) .stop) .stop) .stop) (.alt (.d 5 (.alloc [(.i 0),(.str []),.nl,.nl] 175)) [] (.alt (.d 20 (.call 156 [18,19,(.const (.str [98]))])) [] (.alt (.d 17 (.mv 20)) [] (.alt (.d 21 (.ext 17 0)) [] (.alt (.d 22 (.ext 17 1)) [] (.alt (.n (.store 4 5 21)) [] (.alt (.d 6 (.mv 22)) [] .done .stop) .stop) .stop) .stop) .stop) .stop) .stop)) (.alt (.d 5 (.alloc [(.i 0),(.str []),.nl,.nl] 175)) [] (.alt (.d 19 (.load (some 4) 1)) [] (.alt (.d 20 (.call 156 [18,19,(.const (.str [98]))])) [] (.alt (.d 17 (.mv 20)) [] (.alt (.d 21 (.ext 17 0)) [] (.alt (.d 22 (.ext 17 1)) [] (.alt (.n (.store 4 5 21)) [] (.alt (.d 6 (.mv 22)) [] .done .stop) .stop) .stop) .stop) .stop) .stop) .stop) .stop)) (.alt (.d 19 (.load (some 4) 1)) [] (.alt (.d 18 (.call 144 [(.const .nl)])) [] (.alt (.d 20 (.call 156 [18,19,(.const (.str [98]))])) [] (.alt (.d 17 (.mv 20)) [] (.alt (.d 21 (.ext 17 0)) [] (.alt (.d 22 (.ext 17 1)) [] (.alt (.d 5 (.alloc [(.i 0),(.str []),.nl,.nl] 175)) [] (.alt (.n (.store 4 5 21)) [] (.alt (.d 6 (.mv 22)) [] .done .stop) .stop) .stop) .stop) .stop) .stop) (.alt (.d 5 (.alloc [(.i 0),(.str []),.nl,.nl] 175)) [] (.alt (.d 20 (.call 156 [18,19,(.const (.str [98]))])) [] (.alt (.d 17 (.mv 20)) [] (.alt (.d 21 (.ext 17 0)) [] (.alt (.d 22 (.ext 17 1)) [] (.alt (.n (.store 4 5 21)) [] (.alt (.d 6 (.mv 22)) [] .done .stop) .stop) .stop) .stop) .stop) .stop) .stop)) (.alt (.d 5 (.alloc [(.i 0),(.str []),.nl,.nl] 175)) [] (.alt (.d 18 (.call 144 [(.const .nl)])) [] (.alt (.d 20 (.call 156 [18,19,(.const (.str [98]))])) [] (.alt (.d 17 (.mv 20)) [] (.alt (.d 21 (.ext 17 0)) [] (.alt (.d 22 (.ext 17 1)) [] (.alt (.n (.store 4 5 21)) [] (.alt (.d 6 (.mv 22)) [] .done .stop) .stop) .stop) .stop) .stop) .stop) .stop) .stop)) (.alt (.d 5 (.alloc [(.i 0),(.str []),.nl,.nl] 175)) [] (.alt (.d 18 (.call 144 [(.const .nl)])) [] (.alt (.d 19 (.load (some 4) 1)) [] (.alt (.d 20 (.call 156 [18,19,(.const (.str [98]))])) [] (.alt (.d 17 (.mv 20)) [] (.alt (.d 21 (.ext 17 0)) [] (.alt (.d 22 (.ext 17 1)) [] (.alt (.n (.store 4 5 21)) [] (.alt (.d 6 (.mv 22)) [] .done .stop) .stop) .stop) .stop) .stop) .stop) .stop) (.alt (.d 19 (.load (some 4) 1)) [] (.alt (.d 18 (.call 144 [(.const .nl)])) [] (.alt (.d 20 (.call 156 [18,19,(.const (.str [98]))])) [] (.alt (.d 17 (.mv 20)) [] (.alt (.d 21 (.ext 17 0)) [] (.alt (.d 22 (.ext 17 1)) [] (.alt (.n (.store 4 5 21)) [] (.alt (.d 6 (.mv 22)) [] .done .stop) .stop) .stop) .stop) .stop) .stop) .stop) .stop)) .stop)))) (.seq (.ops [(.d 23 (.mv 2)),(.d 24 (.mv 23)),(.g 25 (.load (some 4) 3) 24 true),(.g 26 (.call 150 [25]) 24 true),(.g 27 (.bin .eql 26 (.const (.str [98,111,111,108,32,124,32,105,110,116]))) 24 true),(.d 28 (.pick 24 27 (.const (.bool false)))),(.d 29 (.mv 28)),(.g 30 (.mv 4) 29 true),(.g 31 (.bin .eql 30 (.const (.i 0))) 29 true),(.d 32 (.pick 29 31 (.const (.bool false)))),(.d 33 (.mv 32)),(.g 34 (.mv 6) 33 true),(.g 35 (.bin .eql 34 (.const (.i 2))) 33 true),(.d 36 (.pick 33 35 (.const (.bool false)))),(.d 0 (.mv 36))]) .ret))))))
def Ox :aN:=(.mk 2 59 [4,5,6,7,8] (.seq (.ops [(.d 4 (.mv (.const .fA))),(.d 5 (.mv (.const .nl))),(.d 6 (.mv (.const .nl))),(.d 7 (.mv (.const .nl))),(.d 8 (.mv (.const (.bool false))))]) (.seq (.ops [(.d 18 (.mv 0)),(.d 19 (.call 147 [18])),(.d 17 (.mv 19)),(.d 20 (.ext 17 0)),(.d 21 (.ext 17 1)),(.d 22 (.ext 17 2)),(.d 9 (.mv 20)),(.d 10 (.mv 21)),(.d 11 (.mv 22))]) (.seq (.ops [(.d 24 (.mv 1)),(.d 25 (.call 194 [24])),(.d 23 (.mv 25)),(.d 26 (.ext 23 0)),(.d 27 (.ext 23 1)),(.d 28 (.ext 23 2)),(.d 12 (.mv 26)),(.d 13 (.mv 27)),(.d 14 (.mv 28))]) (.seq (.seq (.ops [(.d 29 (.mv 11)),(.d 30 (.un .not 29)),(.d 31 (.mv 30)),(.g 32 (.mv 14) 31 false),(.g 33 (.un .not 32) 31 false),(.d 34 (.pick 31 (.const (.bool true)) 33)),(.d 35 (.mv 34)),(.g 36 (.mv 10) 35 false),(.g 37 (.call 148 [36]) 35 false),(.g 38 (.un .not 37) 35 false),(.d 39 (.pick 35 (.const (.bool true)) 38))]) (.cond 39 (.seq (.ops [(.d 4 (.mv (.const .fA))),(.d 5 (.mv (.const .nl))),(.d 6 (.mv (.const .nl))),(.d 7 (.mv (.const .nl))),(.d 8 (.mv (.const (.bool false))))]) .ret) .skip)) (.seq (.ops [(.d 15 (.mv (.const (.i 0))))]) (.seq (.seq (.ops [(.d 16 (.mv (.const (.i 0))))]) (.block 0 (.loop (.seq (.seq (.ops [(.d 40 (.mv 16)),(.d 41 (.mv 13)),(.d 42 (.iw 41)),(.d 43 (.bin .lss 40 42))]) (.cond 43 .skip (.exit 0))) (.seq (.block 1 (.ops [(.d 46 (.mv 15)),(.d 47 (.mv 13)),(.d 48 (.mv 16)),(.d 49 (.bE 4 47 48)),(.d 50 (.load (some 4) 49)),(.d 51 (.call 190 [50])),(.d 52 (.bin .add 46 51)),(.d 15 (.mv 52))])) (.ops [(.d 44 (.mv 16)),(.d 45 (.bin .add 44 (.const (.i 1)))),(.d 16 (.mv 45))])))))) (.seq (.ops [(.d 53 (.mv 9)),(.d 54 (.mv 10)),(.d 55 (.mv 12)),(.d 56 (.mv 13)),(.d 57 (.mv 15)),(.d 58 (.bin .leq 57 (.const (.i 40)))),(.d 4 (.mv 53)),(.d 5 (.mv 54)),(.d 6 (.mv 55)),(.d 7 (.mv 56)),(.d 8 (.mv 58))]) .ret))))))))
def Uk :aN:=(.mk 3 24 [(.cell 6 (some 4)),7] (.seq (.ops [(.d 4 (.box 175 1)),(.d 5 (.box 10 2)),(.d 6 (.alloc [(.i 0),(.str []),.nl,.nl] 175)),(.d 7 (.mv (.const (.i 0))))]) (.seq (.ops [(.d 11 (.mv 0)),(.d 12 (.load (some 4) 4)),(.d 13 (.mkF (.func 196) [] [5])),(.d 14 (.call 195 [11,12,13])),(.d 10 (.mv 14)),(.d 15 (.ext 10 0)),(.d 16 (.ext 10 1)),(.d 8 (.mv 15)),(.d 9 (.mv 16))]) (.seq (.seq (.ops [(.d 17 (.mv 9)),(.d 18 (.bin .neq 17 (.const (.i 0))))]) (.cond 18 (.seq (.ops [(.d 19 (.call 198 [])),(.d 20 (.mv 9)),(.n (.store 4 6 19)),(.d 7 (.mv 20))]) .ret) .skip)) (.seq (.ops [(.d 21 (.mv 8)),(.d 22 (.call 151 [21])),(.d 23 (.mv 9)),(.n (.store 4 6 22)),(.d 7 (.mv 23))]) .ret)))))
def XF :aN:=(.mk 2 25 [4,(.cell 5 (some 4)),6] (.seq (.ops [(.d 3 (.box 175 1)),(.d 4 (.mv (.const .nl))),(.d 5 (.alloc [(.i 0),(.str []),.nl,.nl] 175)),(.d 6 (.mv (.const (.i 0))))]) (.seq (.ops [(.d 7 (.alloc [.nl] 173))]) (.seq (.ops [(.d 11 (.mv 0)),(.d 12 (.load (some 4) 3)),(.d 13 (.mkF (.func 199) [] [7])),(.d 14 (.call 195 [11,12,13])),(.d 10 (.mv 14)),(.d 15 (.ext 10 0)),(.d 16 (.ext 10 1)),(.d 8 (.mv 15)),(.d 9 (.mv 16))]) (.seq (.seq (.ops [(.d 17 (.mv 9)),(.d 18 (.bin .neq 17 (.const (.i 0))))]) (.cond 18 (.seq (.ops [(.d 19 (.call 198 [])),(.d 20 (.mv 9)),(.d 4 (.mv (.const .nl))),(.n (.store 4 5 19)),(.d 6 (.mv 20))]) .ret) .skip)) (.seq (.gV [(.d 21 (.load none 7)),(.d 22 (.mv 8)),(.d 24 (.mv 9))] (.alt (.d 23 (.call 151 [22])) [(none,7)] (.alt (.d 4 (.mv 21)) [] (.alt (.n (.store 4 5 23)) [] (.alt (.d 6 (.mv 24)) [] .done .stop) .stop) .stop) .stop)) .ret))))))
def XE :aN:=(.mk 2 10 [4] (.seq (.ops [(.d 2 (.box 175 0)),(.d 3 (.box 175 1)),(.d 4 (.mv (.const (.bool false))))]) (.seq (.gV [(.d 5 (.load (some 4) 2)),(.d 7 (.load (some 4) 3))] (.alt (.d 6 (.call 150 [5])) [((some 4),3)] (.alt (.d 8 (.call 150 [7])) [] (.alt (.d 9 (.bin .eql 6 8)) [] (.alt (.d 4 (.mv 9)) [] .done .stop) .stop) .stop) .stop)) .ret)))
def Ow :aN:=(.mk 2 16 [4] (.seq (.ops [(.d 2 (.box 179 0)),(.d 3 (.box 175 1)),(.d 4 (.mv (.const .nl)))]) (.seq (.ops [(.d 6 (.load none 2)),(.d 7 (.load (some 4) 3)),(.d 8 (.call 149 [6,7])),(.d 5 (.mv 8))]) (.seq (.ops [(.d 9 (.mv 5)),(.d 10 (.bE 4 9 (.const (.i 0)))),(.d 11 (.aB 2 10)),(.d 12 (.load none 11)),(.d 13 (.call 208 [12])),(.d 14 (.mkF (.func 209) [] [2,3])),(.d 15 (.call 207 [13,14])),(.d 4 (.mv 15))]) .ret))))
def Ub :aN:=(.mk 1 59 [2,3,4] (.seq (.ops [(.d 2 (.mv (.const .nl))),(.d 3 (.mv (.const .nl))),(.d 4 (.mv (.const (.bool false))))]) (.seq (.ops [(.d 5 (.mv (.const .nl)))]) (.seq (.ops [(.d 6 (.mv (.const .nl)))]) (.seq (.seq (.ops [(.d 7 (.mv (.const (.i 0))))]) (.block 0 (.loop (.seq (.seq (.ops [(.d 12 (.mv 7)),(.d 13 (.mv 0)),(.d 14 (.iw 13)),(.d 15 (.bin .lss 12 14))]) (.cond 15 .skip (.exit 0))) (.seq (.block 1 (.seq (.seq (.ops [(.d 18 (.mv 0)),(.d 19 (.mv 7)),(.d 20 (.bE 1 18 19)),(.d 21 (.load none 20)),(.d 22 (.pY 21)),(.d 23 (.bin .gtr 22 (.const (.i 600))))]) (.cond 23 (.seq (.ops [(.d 2 (.mv (.const .nl))),(.d 3 (.mv (.const .nl))),(.d 4 (.mv (.const (.bool false))))]) .ret) .skip)) (.seq (.ops [(.d 25 (.mv 0)),(.d 26 (.mv 7)),(.d 27 (.bE 1 25 26)),(.d 28 (.load none 27)),(.d 29 (.call 142 [28])),(.d 24 (.mv 29)),(.d 30 (.ext 24 0)),(.d 31 (.ext 24 1)),(.d 8 (.alloc [(.i 0),(.str []),.nl,.nl] 175)),(.n (.store 4 8 30)),(.d 9 (.mv 31))]) (.seq (.ops [(.d 33 (.mv 0)),(.d 34 (.mv 7)),(.d 35 (.bE 1 33 34)),(.d 36 (.load none 35)),(.d 37 (.call 233 [36])),(.d 32 (.mv 37)),(.d 38 (.ext 32 0)),(.d 39 (.ext 32 1)),(.d 10 (.alloc [(.i 0),(.str []),.nl,.nl] 109)),(.n (.store 4 10 38)),(.d 11 (.mv 39))]) (.seq (.seq (.ops [(.d 40 (.mv 9)),(.d 41 (.un .not 40)),(.d 42 (.mv 41)),(.g 43 (.mv 11) 42 false),(.g 44 (.un .not 43) 42 false),(.d 45 (.pick 42 (.const (.bool true)) 44))]) (.cond 45 (.seq (.ops [(.d 2 (.mv (.const .nl))),(.d 3 (.mv (.const .nl))),(.d 4 (.mv (.const (.bool false))))]) .ret) .skip)) (.seq (.ops [(.d 46 (.mv 5)),(.d 47 (.load (some 4) 8)),(.d 48 (.lit 4 72 [] 1 [(0,47)])),(.d 49 (.append 4 72 175 46 48)),(.d 5 (.mv 49))]) (.ops [(.d 50 (.mv 6)),(.d 51 (.load (some 4) 10)),(.d 52 (.lit 4 72 [] 1 [(0,51)])),(.d 53 (.append 4 72 109 50 52)),(.d 6 (.mv 53))]))))))) (.ops [(.d 16 (.mv 7)),(.d 17 (.bin .add 16 (.const (.i 1)))),(.d 7 (.mv 17))])))))) (.seq (.ops [(.d 54 (.mv 5)),(.d 55 (.mv 6)),(.d 56 (.mv 0)),(.d 57 (.iw 56)),(.d 58 (.bin .leq 57 (.const (.i 12)))),(.d 2 (.mv 54)),(.d 3 (.mv 55)),(.d 4 (.mv 58))]) .ret))))))
def Ou :aN:=(.mk 3 38 [6,7] (.seq (.ops [(.d 4 (.box 175 1)),(.d 6 (.mv (.const .nl))),(.d 7 (.mv (.const (.i 0))))]) (.seq (.ops [(.d 8 (.mv (.const .nl)))]) (.seq (.seq (.ops [(.d 13 (.mv 0)),(.d 14 (.load (some 4) 4)),(.d 15 (.call 149 [13,14])),(.d 16 (.iw 15)),(.d 17 (.mv (.const (.i 0))))]) (.block 0 (.loop (.seq (.ops [(.d 18 (.bin .lss 17 16))]) (.seq (.cond 18 .skip (.exit 0)) (.seq (.block 1 (.seq (.ops [(.d 19 (.bE 4 15 17)),(.d 20 (.load (some 4) 19)),(.d 10 (.alloc [(.i 0),(.str []),.nl,.nl] 175)),(.n (.store 4 10 20))]) (.seq (.seq (.ops [(.d 21 (.aB 0 10)),(.d 22 (.load none 21)),(.d 23 (.bin .eql 22 (.const (.i 4))))]) (.cond 23 (.seq (.ops [(.d 6 (.mv (.const .nl))),(.d 7 (.mv (.const (.i 1))))]) .ret) .skip)) (.seq (.ops [(.d 25 (.mv 2)),(.d 26 (.load (some 4) 10)),(.d 27 (.jm 25 [26])),(.d 24 (.mv 27)),(.d 28 (.ext 24 0)),(.d 29 (.ext 24 1)),(.d 11 (.alloc [(.i 0),(.str []),.nl,.nl] 175)),(.n (.store 4 11 28)),(.d 12 (.mv 29))]) (.seq (.seq (.ops [(.d 30 (.mv 12)),(.d 31 (.un .not 30))]) (.cond 31 (.seq (.ops [(.d 6 (.mv (.const .nl))),(.d 7 (.mv (.const (.i 2))))]) .ret) .skip)) (.ops [(.d 32 (.mv 8)),(.d 33 (.load (some 4) 11)),(.d 34 (.lit 4 72 [] 1 [(0,33)])),(.d 35 (.append 4 72 175 32 34)),(.d 8 (.mv 35))])))))) (.ops [(.d 36 (.bin .add 17 (.const (.i 1)))),(.d 17 (.mv 36))]))))))) (.seq (.ops [(.d 37 (.mv 8)),(.d 6 (.mv 37)),(.d 7 (.mv (.const (.i 0))))]) .ret)))))
def Ua :aN:=(.mk 2 26 [(.cell 3 (some 4)),4] (.seq (.ops [(.d 2 (.box 175 0)),(.d 3 (.alloc [(.i 0),(.str []),.nl,.nl] 175)),(.d 4 (.mv (.const (.bool false))))]) (.seq (.seq (.ops [(.d 7 (.aB 0 2)),(.d 8 (.load none 7)),(.d 9 (.bin .neq 8 (.const (.i 5))))]) (.cond 9 (.seq (.ops [(.d 10 (.build [(.i 0),(.str []),.nl,.nl] [])),(.n (.store 4 3 10)),(.d 4 (.mv (.const (.bool false))))]) .ret) .skip)) (.seq (.ops [(.d 12 (.aB 2 2)),(.d 13 (.load none 12)),(.d 14 (.load none 1)),(.d 15 (.call 197 [13,14])),(.d 11 (.mv 15)),(.d 16 (.ext 11 0)),(.d 17 (.ext 11 1)),(.d 5 (.mv 16)),(.d 6 (.mv 17))]) (.seq (.seq (.ops [(.d 18 (.mv 6)),(.d 19 (.un .not 18))]) (.cond 19 (.seq (.ops [(.d 20 (.build [(.i 0),(.str []),.nl,.nl] [])),(.n (.store 4 3 20)),(.d 4 (.mv (.const (.bool false))))]) .ret) .skip)) (.seq (.ops [(.d 21 (.aB 3 2)),(.d 22 (.load none 21)),(.d 23 (.mv 5)),(.d 24 (.bE 4 22 23)),(.d 25 (.load (some 4) 24)),(.n (.store 4 3 25)),(.d 4 (.mv (.const (.bool true))))]) .ret))))))
def Oq :aN:=(.mk 0 2 [(.cell 0 (some 4))] (.seq (.ops [(.d 0 (.alloc [(.i 0),(.str []),.nl,.nl] 175))]) (.seq (.ops [(.d 1 (.build [(.i 0),(.str []),.nl,.nl] [(0,(1,(.const (.i 4))))])),(.n (.store 4 0 1))]) .ret)))
def XD :aN:=(.mk 2 22 [(.cell 3 (some 4)),4] (.seq (.ops [(.d 2 (.box 175 0)),(.d 3 (.alloc [(.i 0),(.str []),.nl,.nl] 175)),(.d 4 (.mv (.const (.bool false))))]) (.seq (.seq (.ops [(.d 5 (.aB 0 2)),(.d 6 (.load none 5)),(.d 7 (.bin .neq 6 (.const (.i 6))))]) (.cond 7 (.seq (.ops [(.d 8 (.build [(.i 0),(.str []),.nl,.nl] [])),(.n (.store 4 3 8)),(.d 4 (.mv (.const (.bool false))))]) .ret) .skip)) (.seq (.gV [(.d 9 (.load none 1)),(.d 10 (.aB 3 2)),(.d 11 (.load none 10)),(.d 12 (.bE 4 11 (.const (.i 0)))),(.d 13 (.load (some 4) 12)),(.d 14 (.iw 9)),(.d 15 (.lit 4 72 [] 1 [(0,(.const (.agg [(.i 0),(.str []),.nl,.nl])))]))] (.alt (.d 16 (.append 4 72 175 9 15)) [] (.alt (.d 17 (.bE 4 16 14)) [] (.alt (.n (.store 4 17 13)) [] (.alt (.n (.store 1 1 16)) [] .done .stop) (.alt (.n (.store 1 1 16)) [] (.alt (.n (.store 4 17 13)) [] .done .stop) .stop)) (.alt (.n (.store 1 1 16)) [] (.alt (.d 17 (.bE 4 16 14)) [] (.alt (.n (.store 4 17 13)) [] .done .stop) .stop) .stop)) .stop)) (.seq (.ops [(.d 18 (.aB 3 2)),(.d 19 (.load none 18)),(.d 20 (.bE 4 19 (.const (.i 1)))),(.d 21 (.load (some 4) 20)),(.n (.store 4 3 21)),(.d 4 (.mv (.const (.bool true))))]) .ret)))))
def FU :aN:=(.mk 2 42 [4] (.seq (.ops [(.d 4 (.mv (.const .nl)))]) (.seq (.ops [(.d 8 (.mv 0)),(.d 9 (.mv 1)),(.d 10 (.call 243 [8,9])),(.d 5 (.mv 10))]) (.seq (.seq (.ops [(.d 11 (.mv 5)),(.d 12 (.bin .eql 11 (.const (.i (-1)))))]) (.cond 12 (.seq (.ops [(.d 13 (.mv 0)),(.d 4 (.mv 13))]) .ret) .skip)) (.seq (.seq (.ops [(.d 14 (.mv 5)),(.d 15 (.bin .add 14 (.const (.i 1)))),(.d 6 (.mv 15))]) (.block 0 (.loop (.seq (.seq (.ops [(.d 16 (.mv 6)),(.d 17 (.mv 0)),(.d 18 (.iw 17)),(.d 19 (.bin .lss 16 18))]) (.cond 19 .skip (.exit 0))) (.seq (.block 1 (.seq (.ops [(.d 22 (.mv 0)),(.d 23 (.mv 6)),(.d 24 (.bE 1 22 23)),(.d 25 (.load none 24)),(.d 7 (.mv 25))]) (.seq (.ops [(.d 26 (.mv 1)),(.d 27 (.mv 7)),(.d 28 (.jm 26 [27])),(.d 29 (.un .not 28))]) (.cond 29 (.seq (.ops [(.d 30 (.mv 0)),(.d 31 (.mv 5)),(.d 32 (.mv 7)),(.d 33 (.bE 1 30 31)),(.n (.store 1 33 32))]) (.ops [(.d 34 (.mv 5)),(.d 35 (.bin .add 34 (.const (.i 1)))),(.d 5 (.mv 35))])) .skip)))) (.ops [(.d 20 (.mv 6)),(.d 21 (.bin .add 20 (.const (.i 1)))),(.d 6 (.mv 21))])))))) (.seq (.ops [(.d 36 (.mv 0)),(.d 37 (.mv 5)),(.d 38 (.xw 1 36 (some 37) none)),(.n (.clr 1 (.str []) 38))]) (.seq (.ops [(.d 39 (.mv 0)),(.d 40 (.mv 5)),(.d 41 (.xw 1 39 none (some 40))),(.d 4 (.mv 41))]) .ret)))))))
def T9 :aN:=(.mk 3 16 [4] (.seq (.ops [(.d 4 (.mv (.const (.bool false))))]) (.seq (.ops [(.d 8 (.load none 1)),(.d 9 (.load (some 4) 2)),(.d 10 (.mv 0)),(.d 11 (.call 156 [8,9,10])),(.d 7 (.mv 11)),(.d 12 (.ext 7 0)),(.d 13 (.ext 7 1)),(.d 5 (.alloc [(.i 0),(.str []),.nl,.nl] 175)),(.n (.store 4 5 12)),(.d 6 (.mv 13))]) (.seq (.ops [(.d 14 (.mv 6)),(.d 15 (.bin .neq 14 (.const (.i 0)))),(.d 4 (.mv 15))]) .ret))))
def TJ :aN:=(.mk 1 29 [(.cell 2 (some 4)),3] (.seq (.ops [(.d 2 (.alloc [(.i 0),(.str []),.nl,.nl] 109)),(.d 3 (.mv (.const (.bool false))))]) (.seq (.ops [(.d 6 (.mv 0)),(.d 7 (.call 39 [6])),(.d 4 (.alloc [.nl,(.i 0),.nl,(.bool false)] 83)),(.n (.store 4 4 7))]) (.seq (.ops [(.d 8 (.call 62 [4,(.const (.i 1))])),(.d 5 (.alloc [(.i 0),(.str []),.nl,.nl] 109)),(.n (.store 4 5 8))]) (.seq (.seq (.ops [(.d 9 (.aB 3 4)),(.d 10 (.load none 9)),(.d 11 (.mv 10)),(.g 12 (.aB 0 4) 11 false),(.g 13 (.load none 12) 11 false),(.g 14 (.aB 1 4) 11 false),(.g 15 (.load none 14) 11 false),(.g 16 (.bE 3 13 15) 11 false),(.g 17 (.aB 0 16) 11 false),(.g 18 (.load none 17) 11 false),(.g 19 (.bin .neq 18 (.const (.i 6))) 11 false),(.d 20 (.pick 11 (.const (.bool true)) 19)),(.d 21 (.mv 20)),(.g 22 (.aB 2 4) 21 false),(.g 23 (.load none 22) 21 false),(.g 24 (.iw 23) 21 false),(.g 25 (.bin .gtr 24 (.const (.i 0))) 21 false),(.d 26 (.pick 21 (.const (.bool true)) 25))]) (.cond 26 (.seq (.ops [(.d 27 (.build [(.i 0),(.str []),.nl,.nl] [])),(.n (.store 4 2 27)),(.d 3 (.mv (.const (.bool false))))]) .ret) .skip)) (.seq (.ops [(.d 28 (.load (some 4) 5)),(.n (.store 4 2 28)),(.d 3 (.mv (.const (.bool true))))]) .ret))))))
def DX :aN:=(.mk 2 19 [4] (.seq (.ops [(.d 4 (.mv (.const (.i 0))))]) (.seq (.seq (.ops [(.d 6 (.mv 0)),(.d 7 (.iw 6)),(.d 8 (.mv (.const (.i 0))))]) (.block 0 (.loop (.seq (.ops [(.d 9 (.bin .lss 8 7))]) (.seq (.cond 9 .skip (.exit 0)) (.seq (.block 1 (.seq (.ops [(.d 10 (.mv 8)),(.d 5 (.mv 10))]) (.seq (.ops [(.d 11 (.mv 1)),(.d 12 (.mv 0)),(.d 13 (.mv 5)),(.d 14 (.bE 1 12 13)),(.d 15 (.load none 14)),(.d 16 (.jm 11 [15]))]) (.cond 16 (.seq (.ops [(.d 17 (.mv 5)),(.d 4 (.mv 17))]) .ret) .skip)))) (.ops [(.d 18 (.bin .add 8 (.const (.i 1)))),(.d 8 (.mv 18))]))))))) (.seq (.ops [(.d 4 (.mv (.const (.i (-1)))))]) .ret))))
end Go.Ag
/- Package parts: each (what each head gives). -/
namespace Go.Ag
open Go
variable {T : Tab} {L : Lnk} {σ : Type}
def tL (e:d9):Heap:=[.map (bZ e.by_ 0) e.by_.length,.map (gH e.empty 0) e.empty.length,.cells [.map 2,.map 3] 234]
def oM (f:σ→TA→Option TA×σ):σ→List TA→List TA→(List TA×Nat)×σ
 |s,acc,[]=>((acc,0),s)
 |s,acc,h::hs=>if h.kind=4 then(([],1),s)else match f s h with
  |(none,s')=>(([],2),s')
  |(some x,s')=>oM f s' (acc ++[x]) hs
theorem Km {f:σ→TA→Option TA×σ} {part:TA→Option TA} (h:∀s t,(f s t).1=part t):∀(hs acc:List TA) (s:σ),(oM f s acc hs).1=qg part acc hs
 |[],acc,s=>rfl
 |t::hs,acc,s=>by
  rw[oM,qg];split
  ·rfl
  ·have:=h s t
   generalize f s t=q at this;obtain⟨a,b⟩:=q;dsimp only at this;subst this
   cases part t with
   |none=>rfl
   |some x=>exact Km h hs (acc ++[x]) b
structure UG (T:Tab) (g:Nat) (p q:σ→aS) (P:Nat→σ→Prop) (f:σ→TA→Option TA×σ):Prop where
 Rz:∀s,bF 2 (p s)
 Ry:∀s,bF 2 (q s)
 call:∀n s y,P n s→n<2^30→NT y→wtT y≤2^30→eu T.L g [y.av,.ptr 0 0] [p s,q s] (.tup [((f s y).1.getD jY).av,.bool (f s y).1.isSome]) [p (f s y).2,q (f s y).2]
 next:∀n s y,P n s→P (n+1) (f s y).2
theorem Qh (PZ:T.has 195 Ou) {g:Nat} {p q:σ→aS} {P:Nat→σ→Prop} {f:σ→TA→Option TA×σ} (A:UG T g p q P f) {e:d9} {t:TA} {hs:List TA} (hH:EK T.L 149 [t.av] e (.lst (TA.avs hs) .none))
  (hn:∀h∈hs,NT h∧wtT h≤2^30) (hl:hs.length≤2^29) (s:σ) (h0:P 0 s):
  eu T.L 195 [.ptr 4 0,t.av,.fn (.func g) [] [.ptr 0 0]] (p s::q s::tL e) (.tup [.lst (TA.avs (oM f s [] hs).1.1) .none,.int .i64 (oM f s [] hs).1.2]) (p (oM f s [] hs).2::q (oM f s [] hs).2::tL e):=by
 have RB:∀n,5≤n→fO n (tL e):=fun n h=>⟨aI (Nat.zero_le _) (fC 0 _ _),aI (Nat.zero_le _) (gG 0 _ _),dW ⟨.map _ (by omega),.map _ (by omega),trivial⟩,trivial⟩
 refine eu.of 1 rfl (.tup _ (gD.at ⟨.lst _ _ trivial (aX _ _),.int _ _,trivial⟩)) (fO.at ⟨aI (by show 2≤5;decide) (A.Rz _),aI (by show 2≤5;decide) (A.Ry _),RB 5 (Nat.le_refl _)⟩)
  (aC.mono (Q:=fun r H'=>∃J tk,r=.ret (.tup [.lst (TA.avs (oM f s [] hs).1.1) tk,.int .i64 (oM f s [] hs).1.2])∧H'=(p (oM f s [] hs).2::q (oM f s [] hs).2::tL e) ++J) ?_ fun r H' ⟨J,tk,e1,e2⟩=>⟨_,_,J,e1,Weak.tup ⟨Weak.tok _ _,Weak.refl _,trivial⟩,e2,rfl,fun i x y h1 h2=>by rw[h1]at h2;cases h2;exact bR.refl x⟩)
 refine aG PZ (by simp[Ou]) ?_;unfold tL at RB⊢;obtain⟨fin,hfin⟩:∃fin,oM f s [] hs=fin:=⟨_,rfl⟩;rw[hfin];have hlq:=aT 0 t;have hE:∀(o:aS) (J:Heap),zm e (p s::q s::.map (bZ e.by_ 0) e.by_.length::.map (gH e.empty 0) e.empty.length::.cells [.map 2,.map 3] 234::o::J) 2:=fun o J=>⟨rfl,rfl,rfl⟩
 obtain⟨tk,tn,ts,tl⟩:=t;conv=>whnf
 refine hH.any (dF hlq) (.lst _ _ trivial (aX 0 _)) (hE _ _) ?_;conv=>whnf
 intro I hI hG
 have key:∀(d j:Nat) (s1:σ) (acc:List TA) (e':Env),hs.length-j=d→j≤hs.length→acc.length=j→P j s1→oM f s1 acc (hs.drop j)=fin→
   I (fZ e' [(2,.fn (.func g) [] [.ptr 0 0]),(8,.lst (TA.avs acc) (bA acc.length 5)),(15,.lst (TA.avs hs) .none),(16,.int .i64 hs.length),(17,.int .i64 j)])
    [p s1,q s1,.map (bZ e.by_ 0) e.by_.length,.map (gH e.empty 0) e.empty.length,.cells [.map 2,.map 3] 234,aZ acc.length 175,dM (.mk tk tn ts tl)]:=by
  intro d
  induction d with
  |zero=>
   intro j s1 acc e' hd hj ha hP hf;have hjl:j=hs.length:=by omega
   rw[hjl,List.drop_length,oM]at hf;subst hf;apply hI;conv=>whnf
   rw[bQ (by omega)];conv=>whnf
   exact⟨_,_,rfl,rfl⟩
  |succ d ihd=>
   intro j s1 acc e' hd hj ha hP hf;have hjl:j<hs.length:=by omega
   rw[List.drop_eq_getElem_cons hjl,oM]at hf;have hget:=nH hjl;have hnt:=hn _ (List.getElem_mem hjl);have hnext:=fun s2 acc2 e2=>ihd (j+1) s2 acc2 e2 (by omega) hjl
   generalize hs[j]=v at hget hf hnt;have hc:=A.call j s1 v hP (by omega) hnt.1 hnt.2;have hx:=A.next j s1 v hP;have hlv:∀x∈[v.av,.ptr 0 0],Low 2 x:=gD.at ⟨aT _ _,.ptr _ _ (by decide),trivial⟩;generalize f s1 v=r at hc hf hx;obtain⟨r1,s2⟩:=r;dsimp only at hc hf hx;apply hI;obtain⟨vk,vn,vs,vl⟩:=v;conv=>whnf
   rw[cO hjl];conv=>whnf
   refine step_elem (Int.natCast_nonneg _) hget rfl ?_;conv=>whnf
   by_cases hk:vk=4
   ·subst hk
    rw[if_pos (show(TA.mk 4 vn vs vl).kind=4 from rfl)]at hf;subst hf;conv=>whnf
    exact⟨_,_,rfl,rfl⟩
   rw[if_neg (show¬(TA.mk vk vn vs vl).kind=4 from hk)]at hf;rw[show(vk==4)=false from by simpa using hk];conv=>whnf
   refine hc.to rfl hlv (fO.at ⟨A.Rz _,A.Ry _,trivial⟩) (.tup _ (gD.at ⟨aT _ _,.bool _,trivial⟩)) (fO.at ⟨A.Rz _,A.Ry _,trivial⟩) _ rfl ?_
   cases r1 with
   |none=>
    subst hf;conv=>whnf
    exact⟨_,_,rfl,rfl⟩
   |some x=>
    have hf:oM f s2 (acc ++[x]) (hs.drop (j+1))=fin:=hf;have hacc:(TA.avs acc).length=acc.length:=bH acc;have hnext:=hnext s2 (acc ++[x]);have e1:TA.avs (acc ++[x])=TA.avs acc ++[x.av]:=iE acc [x];have e2:(acc ++[x]).length=(TA.avs acc ++[x.av]).length:=by rw[←e1,bH]
    have hsz:=eF acc;have hs1:=eF [x];rw[e1,e2]at hnext;rw[←hacc]at ha⊢;have hlo:=aX 7 (acc ++[x]);rw[e1]at hlo;have e3:=e2;rw[List.length_append]at e3;obtain⟨xk,xn,xs,xl⟩:=x;conv=>whnf
    refine dx (xs:=TA.avs acc) (id:=5) (k:=4) (bytes:=72) (t:=175) hsz hs1 (by rw[bH];simp;omega) (by rw[bH];simp;omega) (by simp[TA.avs]) rfl ?_;conv=>whnf
    refine hG.keep [(2,.fn (.func g) [] [.ptr 0 0]),(8,.lst (TA.avs acc ++[(TA.mk xk xn xs xl).av]) (bA (TA.avs acc ++[(TA.mk xk xn xs xl).av]).length 5)),(15,.lst (TA.avs hs) .none),(16,.int .i64 hs.length),(17,.int .i64 (j+1:Nat))]
     [p s2,q s2,.map (bZ e.by_ 0) e.by_.length,.map (gH e.empty 0) e.empty.length,.cells [.map 2,.map 3] 234,aZ (TA.avs acc ++[(TA.mk xk xn xs xl).av]).length 175,dM (.mk tk tn ts tl)] (Nat.le_refl 7) rfl ⟨rfl,rfl,rfl,rfl,add1 (by omega),trivial⟩
     ⟨.fn _ _ _ fP (dF (.ptr _ _ (show 0<7 by decide))),.lst _ _ (dI (show 5<7 by decide)) hlo,.lst _ _ trivial (aX _ _),.int _ _,.int _ _,trivial⟩
     ⟨aI (show 2≤7 by decide) (A.Rz _),aI (show 2≤7 by decide) (A.Ry _),(RB 7 (by decide)).1,(RB 7 (by decide)).2.1,(RB 7 (by decide)).2.2.1,bB _ _ _,aI (Nat.zero_le _) (dD _),trivial⟩ (hnext _ (by rw[←e2,List.length_append,List.length_singleton,←hacc,ha]) hx hf)
 exact inv_of [(2,.fn (.func g) [] [.ptr 0 0]),(8,.lst (TA.avs []) (bA ([]:List TA).length 5)),(15,.lst (TA.avs hs) .none),(16,.int .i64 hs.length),(17,.int .i64 (0:Nat))] ⟨rfl,rfl,rfl,by show au.int .i64 ((TA.avs hs).length:Nat)=_;rw[bH],rfl,trivial⟩ (key hs.length 0 s [] _ rfl (Nat.zero_le _) rfl h0 hfin)
end Go.Ag
/- Package parts: Field; package types: Alike. -/
namespace Go.Ag
open Go
variable {T : Tab} {L : Lnk}
structure wE (T:Tab):Prop extends zq T where
 WT:T.has 156 Uk
 Yz:T.has 158 XE
 PZ:T.has 195 Ou
 WG:T.has 196 Ua
 PY:T.has 197 Ot
 PX:T.has 198 Oq
 JZ:T.has 234 KG
 JY:T.has 235 KF
 Ei:T.has 267 FT
theorem SS (PX:T.has 198 Oq):Pure T.L 198 [] dH.av:=by
 refine Pure.run fP (aT _ _) (aG PX (by simp[Oq]) ?_);conv=>whnf
 exact⟨_,rfl,Weak.agg ⟨Weak.refl _,Weak.refl _,Weak.tok _ _,Weak.tok _ _,trivial⟩⟩
theorem J9 (F:wE T) (nm:Bytes) {y:TA} (hy:NT y) (hw:wtT y≤2^30) {q:aS} (hq:bF 2 q):
  eu T.L 196 [y.av,.ptr 0 0] [.cells [.str nm] 10,q] (.tup [((eT nm y).getD jY).av,.bool (eT nm y).isSome]) [.cells [.str nm] 10,q]:=by
 refine eu.of 0 rfl (.tup _ (gD.at ⟨aT _ _,.bool _,trivial⟩)) (fO.at ⟨dW ⟨.str _,trivial⟩,hq,trivial⟩)
  (aC.mono (Q:=fun r H'=>∃x J,r=.ret x∧Weak T.L x (.tup [((eT nm y).getD jY).av,.bool (eT nm y).isSome])∧H'=[.cells [.str nm] 10,q] ++J) ?_ fun r H' ⟨x,J,e1,e2,e3⟩=>⟨x,_,J,e1,e2,e3,rfl,fun i x y h1 h2=>by rw[h1]at h2;cases h2;exact bR.refl x⟩)
 have hz:Weak T.L (.tup [.agg [.int .i64 0,.str [],.lst [] .nil,.lst [] .nil],.bool false]) (.tup [jY.av,.bool false]):=Weak.tup ⟨Weak.agg ⟨Weak.refl _,Weak.refl _,Weak.tok _ _,Weak.tok _ _,trivial⟩,Weak.refl _,trivial⟩;obtain⟨yk,yn,ys,yl⟩:=y;refine aG F.WG (by simp[Ua]) ?_
 by_cases hk:yk=5
 ·subst hk
  obtain⟨h1,h2⟩:ys.Pairwise (· < ·)∧ys.length=yl.length:=by cases hy;exact⟨‹_›,‹_›⟩
  have hlen:ys.length≤2^40:=by
   have:=Rs ys;rw[wtT]at hw;omega
  have hb:=H6 F.PY F.JZ F.JY F.Ei ys nm h1 hlen;have hlo:=ND ys nm;have hhas:=CQ (nm:=nm) h1
  have hfp:eT nm (.mk 5 yn ys yl)=if nm∈ys then yl[uQ ys nm]? else none:=by
   exact if_pos rfl
  rw[hfp];generalize uQ ys nm=lo at hb hlo hhas;conv=>whnf
  refine(hb.weak (args:=[.lst (aJ ys) .none,.str nm]) ⟨Weak.refl _,Weak.refl _,trivial⟩).to ?_
  by_cases hm:nm∈ys
  ·rw[decide_eq_true hm,if_pos hm]
   have hlt:lo<yl.length:=by
    have:=hhas.2 hm;have:=(List.getElem?_eq_some_iff.1 this).1;omega
   have hget:=nH hlt;rw[List.getElem?_eq_getElem hlt];generalize yl[lo]=v at hget;obtain⟨vk,vn,vs,vl⟩:=v;conv=>whnf
   refine step_elem (Int.natCast_nonneg _) hget rfl ?_;conv=>whnf
   exact⟨_,_,rfl,Weak.refl _,rfl⟩
  ·rw[decide_eq_false hm,if_neg hm]
   conv=>whnf
   exact⟨_,_,rfl,hz,rfl⟩
 ·rw[show eT nm (.mk yk yn ys yl)=none from by unfold eT;exact if_neg hk]
  conv=>whnf
  rw[show(yk !=5)=true from by simpa using hk];conv=>whnf
  exact⟨_,_,rfl,hz,rfl⟩
theorem SA (F:wE T) (nm:Bytes) (t:TA):UG (σ:=Unit) T 196 (fun _=>.cells [.str nm] 10) (fun _=>dM t) (fun _ _=>True) (fun _ h=>(eT nm h,()))where
 Rz:=fun _=>dW ⟨.str _,trivial⟩
 Ry:=fun _=>aI (Nat.zero_le _) (dD t)
 call:=fun n s y _ _ hy hw=>J9 F nm hy hw (aI (Nat.zero_le _) (dD t))
 next:=fun _ _ _ _=>trivial
theorem SQ {g:Nat} {p q:aS} {tv y:au} {e:d9} (h:eu L 195 [.ptr 4 0,tv,.fn (.func g) [] [.ptr 0 0]] (p::q::tL e) y (p::q::tL e)) (lp:bF 0 p) (lq:bF 0 q) (lt:Low 0 tv) (ly:Low 0 y) (ap:p.alive=true) (aq:q.alive=true)
  {H:Heap} {a b:Nat} (hab:a≠b) (h3:3≤a) (h4:3≤b) (hE:zm e H 0) (ha:H[a]?=some p) (hb:H[b]?=some q) {K KP:au→Heap→Prop} (hk:K y H):aC L 195 [.ptr 2 0,tv,.fn (.func g) [] [.ptr a 0]] H (dJ K KP):=by
 have hp:Part H [a,b,0,1,2] (p::q::tL e):=by
  refine⟨by simp;omega,rfl,fun k i o hk ho=>?_⟩
  match k,hk,ho with
  |0,hk,ho=>cases hk;cases ho;rw[eG lp];exact ha
  |1,hk,ho=>cases hk;cases ho;rw[eG lq];exact hb
  |2,hk,ho=>cases hk;cases ho;rw[eG (show bF 0 (.map (bZ e.by_ 0) e.by_.length)from fC 0 _ _)];exact hE.h0
  |3,hk,ho=>cases hk;cases ho;rw[eG (show bF 0 (.map (gH e.empty 0) e.empty.length)from gG 0 _ _)];exact hE.h1
  |4,hk,ho=>cases hk;cases ho;exact hE.h2
  |k+5,hk,ho=>cases hk
 have hf:=aC.Sn (y':=y) (args':=[.ptr 2 0,tv,.fn (.func g) [] [.ptr a 0]]) h (fun o ho=>by
  simp only[tL,List.mem_cons,List.not_mem_nil,or_false]at ho
  rcases ho with rfl|rfl|rfl|rfl|rfl<;>first|exact ap|exact aq|rfl) [a,b,0,1,2] hp (by
  rw[List.map_cons,List.map_cons,ku lt];rfl) (ku ly)
 exact hf.to1 hk
theorem fm_ok {part:TA→Option TA} (hp:∀h t,part h=some t→t∈h.l) {hs:List TA} (hn:∀h∈hs,NT h) (hw:wtL hs≤2^26):okN (.mk 7 [] [] (hs.filterMap part)):=by
 have hm:∀t∈hs.filterMap part,NT t:=fun t ht=>by
  obtain⟨h,hh,he⟩:=List.mem_filterMap.1 ht;exact(hn h hh).parts t (hp h t he)
 have key:∀l:List TA,wtL (l.filterMap part)≤wtL l:=fun l=>by
  induction l with
  |nil=>exact Nat.le_refl _
  |cons h l ih=>
   rw[List.filterMap_cons]
   cases hx:part h with
   |none=>rw[wtL];simp only;omega
   |some t=>
    have h1:=gY (hp h t hx);have h2:=BP h;simp only[wtL];omega
 have hl:∀l:List TA,l.length≤wtL l:=fun l=>by
  induction l with
  |nil=>exact Nat.le_refl _
  |cons h l ih=>rw[wtL,List.length_cons];omega
 have h1:=key hs;have h2:=hl (hs.filterMap part);have h3:=hl (aP (hs.filterMap part));have h4:=F9 (hs.filterMap part);exact Jp hm (by omega) (fun t ht=>by have:=gY ht;omega) (by omega)
theorem SB (nm:Bytes) (h t:TA) (he:eT nm h=some t):t∈h.l:=by
 unfold eT at he;split at he
 ·split at he
  ·exact List.mem_of_getElem? he
  ·cases he
 ·cases he
theorem xW (F:wE T) {by_:List (Bytes×TA)} {e:d9} {C:List TA} (W:kS by_ e C) {t:TA} (ht:GC' C t) (hw:wtL (hdE e t)≤2^26) (nm:Bytes):
  EK T.L 156 [t.av,.str nm] e (.tup [(gives (eT nm) (hdE e t)).1.av,.int .i64 (gives (eT nm) (hdE e t)).2]):=by
 have hn:∀h∈hdE e t,NT h∧wtT h≤2^30:=fun h hh=>W.Ms ht hh
 have hE:=Qh F.PZ (SA F nm t) (W.JN F.toxY ht) hn (Yr W ht) () trivial;rw[Km (part:=eT nm) fun _ _=>rfl]at hE;have hd:=W.Sb ht
 have hJ:(qg (eT nm) [] (hdE e t)).2=0→okN (.mk 7 [] [] (qg (eT nm) [] (hdE e t)).1):=fun h0=>by
  rcases Classical.em (dH∈hdE e t)with h|h
  ·rw[Yt W ht h]at h0;cases h0
  ·have k4:∀h∈hdE e t,h.kind≠4:=fun x hx h4=>h (by rw[←(hd.1 x hx).1.Dz h4];exact hx)
   by_cases hp:∃h∈hdE e t,eT nm h=none
   ·rw[Dy _ _ k4 hp]at h0;cases h0
   ·rw[zX _ _ k4 fun x hx=>by
     cases hq:eT nm x with
     |none=>exact absurd ⟨x,hx,hq⟩ hp
     |some _=>rfl]
    exact fm_ok (SB nm) (fun h hh=>(hn h hh).1) hw
 have hJ:=fun h=>F5 F.toxR _ (hJ h)
 unfold gives;generalize qg (eT nm) [] (hdE e t)=r at hE hJ;obtain⟨l,how⟩:=r;dsimp only at hE hJ⊢;have hdy:=SS F.PX;have lt:=aT 0 t;have hEA:∀J,zm e (kH e ++J) 0:=fun J=>⟨rfl,rfl,rfl⟩
 have hR:=fun{H:Heap} {a b:Nat} hab h3 h4 hE' ha hb {K KP:au→Heap→Prop} hk=>SQ (L:=T.L) (H:=H) (a:=a) (b:=b) (K:=K) (KP:=KP) hE (dW ⟨.str _,trivial⟩) (dD t) lt (.tup _ (gD.at ⟨.lst _ _ trivial (aX _ _),.int _ _,trivial⟩)) rfl (by obtain⟨a,b,c,d⟩:=t;rfl) hab h3 h4 hE' ha hb hk
 refine EK.of 0 (.tup _ (gD.at ⟨aT _ _,.int _ _,trivial⟩)) (aG F.WT (by simp[Uk]) ?_);clear hE;obtain⟨tk,tn,ts,tl⟩:=t;conv=>whnf
 refine hR (a:=4) (b:=3) (by decide) (by decide) (by decide) (hEA _) rfl rfl ?_
 by_cases h0:how=0
 ·subst h0
  rw[if_pos rfl];have hJ:=hJ rfl;generalize lF l=u at hJ;obtain⟨uk,un,us,ul⟩:=u;conv=>whnf
  refine hJ.to ?_;conv=>whnf
  exact⟨_,_,rfl,Weak.refl _,rfl⟩
 ·rw[if_neg h0]
  conv=>whnf
  rw[show((how:Int) !=0)=true from by simpa using h0];conv=>whnf
  refine hdy.to ?_;conv=>whnf
  exact⟨_,_,rfl,Weak.refl _,rfl⟩
end Go.Ag
/- cupelref05.TypeOf, cupellaw07.Parsed, cupellaw09.Made. -/
namespace Go.Ag
open Go
variable {T : Tab} {L : Lnk}
structure UD (T:Tab):Prop extends UJ T where
 Wp:T.has 233 TJ
theorem Io (F:UD T) (src:Bytes) (hs:src.length≤2^31):Pure T.L 233 [.str src] (.tup [(iZ src).1.av,.bool (iZ src).2]):=by
 refine Pure.IZ 1 (dF (.str _)) (.tup _ (gD.at ⟨aT _ _,.bool _,trivial⟩)) (aG F.Wp (by simp[TJ]) ?_);have hR:=iZ.eq_1 src;unfold Et tT at hR;generalize iZ src=R at hR⊢;conv=>whnf
 refine F.toUJ.of src (by omega) _ rfl ?_;conv=>whnf
 have hok:=(mE src (by omega)).1;have hq:=(BX F.totQ (lg src)).type 1 (bD src) hok (by omega) (Nat.le_refl _);have hle:=(bL (lg src)).1 1 (bD src) hok;obtain⟨q,hqe⟩:∃q,bJ (lg src) 1 (bD src)=q:=⟨_,rfl⟩;rw[hqe]at hq hle hR;obtain⟨⟨a1,a2,a3,a4⟩,s⟩:=q;dsimp only at hq hle hR;have hs':=hok.of hle;refine hq.to2 (dF (.int _ _)) (aT _ _) _ _ rfl ?_;conv=>whnf
 have e0:(s.diags.map bM.av).length=s.diags.length:=by simp
 cases hb:s.bad
 ·conv=>whnf
  refine jJ hs' ?_;conv=>whnf
  refine⟨Nat.zero_le _,?_⟩;conv=>whnf
  cases hk:(s.tok.kind !=6)
  ·have hk6:(s.tok.kind==6)=true:=by simpa[bne]using hk
   conv=>whnf
   rw[e0];cases hd:decide (((s.diags.length:Nat):Int)>0)
   ·have h0:(s.diags.length==0)=true:=by simp at hd⊢;exact hd
    rw[hb,hk6,h0]at hR;have hR:R=(TA.mk a1 a2 a3 a4,true):=hR;subst hR;conv=>whnf
    exact aH (Weak.refl _)
   ·have h0:(s.diags.length==0)=false:=by
     have:=of_decide_eq_true hd;simp;intro h;rw[h]at this;exact absurd this (by decide)
    rw[hb,hk6,h0,if_neg (by simp)]at hR;subst hR;conv=>whnf
    exact aH (Weak.tup ⟨iD,Weak.refl _,trivial⟩)
  ·have hk6:(s.tok.kind==6)=false:=by simpa[bne]using hk
   rw[hb,hk6,if_neg (by simp)]at hR;subst hR;conv=>whnf
   exact aH (Weak.tup ⟨iD,Weak.refl _,trivial⟩)
 ·rw[hb,if_neg (by simp)]at hR
  subst hR;conv=>whnf
  exact aH (Weak.tup ⟨iD,Weak.refl _,trivial⟩)
def oL (s:Bytes):Bool:=decide (s.length≤600)&&(iZ s).2
def gJ (l:List Bytes):List TA:=if l.all oL then l.map fun s=>(iZ s).1 else[]
structure UF (T:Tab):Prop extends UD T,zf T where
 WH:T.has 194 Ub
theorem Bb (F:UF T) (l:List Bytes) (hl:l.length≤2^20):Pure T.L 194 [.lst (aJ l) .none] (.tup [.lst (TA.avs (gJ l)) .none,.lst (TA.avs (gJ l)) .none,.bool (l.all oL&&decide (l.length≤12))]):=by
 refine Pure.IZ 2 (dF (dS _ _ _ trivial)) (.tup _ (gD.at ⟨.lst _ _ trivial (aX _ _),.lst _ _ trivial (aX _ _),.bool _,trivial⟩)) (aG F.WH (by simp[Ub]) ?_);have hLen:(aJ l).length=l.length:=by simp[aJ]
 obtain⟨res,hres⟩:∃res,au.tup [.lst (TA.avs (gJ l)) .none,.lst (TA.avs (gJ l)) .none,.bool (l.all oL&&decide (l.length≤12))]=res:=⟨_,rfl⟩;rw[hres]
 have hno:∀s∈l,oL s=false→Weak T.L (.tup [.lst [] .nil,.lst [] .nil,.bool false]) res:=fun s hs h=>by
  have:l.all oL=false:=by
   rw[List.all_eq_false];exact⟨s,hs,by rw[h];decide⟩
  unfold gJ at hres;rw[this]at hres;subst hres;exact Weak.tup ⟨Weak.tok _ _,Weak.tok _ _,Weak.refl _,trivial⟩
 conv=>whnf
 intro I hI hG
 have key:∀(d j:Nat) (e:Env),l.length-j=d→j≤l.length→(∀s∈l.take j,oL s=true)→
   I (fZ e [(0,.lst (aJ l) .none),(5,.lst (TA.avs ((l.take j).map fun s=>(iZ s).1)) (bA ((l.take j).map fun s=>(iZ s).1).length 0)),(6,.lst (TA.avs ((l.take j).map fun s=>(iZ s).1)) (bA ((l.take j).map fun s=>(iZ s).1).length 1)),(7,.int .i64 j)])
    [aZ ((l.take j).map fun s=>(iZ s).1).length 175,aZ ((l.take j).map fun s=>(iZ s).1).length 109]:=by
  intro d
  induction d with
  |zero=>
   intro j e hd hj ha;have hjl:j=l.length:=by omega
   subst hjl;rw[List.take_length]at ha⊢;have hall:l.all oL=true:=List.all_eq_true.2 ha;unfold gJ at hres;rw[hall]at hres;have hres:au.tup [.lst (TA.avs (l.map fun s=>(iZ s).1)) .none,.lst (TA.avs (l.map fun s=>(iZ s).1)) .none,.bool (decide (l.length≤12))]=res:=hres;generalize l.map (fun s=>(iZ s).1)=ts at hres⊢;apply hI;conv=>whnf
   rw[hLen,show decide (((l.length:Nat):Int)<((l.length:Nat):Int))=false from decide_eq_false (by omega)];conv=>whnf
   rw[hLen,←hres];refine⟨_,rfl,Weak.tup ⟨Weak.tok _ _,Weak.tok _ _,?_,trivial⟩⟩;rw[show decide (((l.length:Nat):Int)≤12)=decide (l.length≤12)from decide_eq_decide.2 (by omega)];exact Weak.refl _
  |succ d ihd=>
   intro j e hd hj ha;have hjl:j<l.length:=by omega
   have hget:(aJ l)[((j:Nat):Int).toNat]?=some (.str l[j]):=by
    rw[Int.toNat_natCast];simp[aJ,List.getElem?_map,List.getElem?_eq_getElem hjl]
   have hnext:=fun e h=>ihd (j+1) e (by omega) hjl h
   have hm:=List.getElem_mem hjl;rw[List.take_succ_eq_append_getElem hjl,List.map_append,List.map_singleton]at hnext;have hn2:=fun(h:oL l[j]=true) e=>hnext e fun s hs=>(List.mem_append.1 hs).elim (ha s) fun h'=>by rw[List.mem_singleton]at h';rw[h'];exact h
   clear hnext;have hno:=hno _ hm;have hacc:((l.take j).map fun s=>(iZ s).1).length=j:=by rw[List.length_map,List.length_take];omega
   generalize (l.take j).map (fun s=>(iZ s).1)=acc at hn2 hacc⊢;generalize l[j]=s at hget hn2 hno;have h1:s.length≤600→_:=fun h=>F3 F.tozf s (by omega)
   have h2:s.length≤600→_:=fun h=>Io F.toUD s (by omega)
   unfold oL at hn2 hno;apply hI;conv=>whnf
   rw[hLen,cO hjl];conv=>whnf
   refine step_elem (Int.natCast_nonneg _) hget rfl ?_;conv=>whnf
   by_cases VO:s.length≤600
   case neg=>
    rw[show decide (((s.length:Nat):Int)>600)=true from decide_eq_true (by omega)];conv=>whnf
    exact⟨_,rfl,hno (by rw[decide_eq_false VO];rfl)⟩
   rw[show decide (((s.length:Nat):Int)>600)=false from decide_eq_false (by omega)];have h1:=h1 VO;have h2:=h2 VO;rw[decide_eq_true VO]at hn2 hno;generalize iZ s=r at h1 h2 hn2 hno;obtain⟨x,b⟩:=r;dsimp only at h1 h2 hn2 hno;rw[Bool.true_and]at hn2 hno;have e1:TA.avs (acc ++[x])=TA.avs acc ++[x.av]:=iE acc [x];have e2:(acc ++[x]).length=(TA.avs acc ++[x.av]).length:=by rw[←e1,bH]
   have hsz:=eF acc;have hs1:=eF [x];rw[e1,e2]at hn2;have hla:(TA.avs acc).length=acc.length:=bH acc;rw[←hla]at hacc⊢;have hlo:=aX 2 (acc ++[x]);rw[e1]at hlo;obtain⟨xk,xn,xs,xl⟩:=x;conv=>whnf
   refine step_elem (Int.natCast_nonneg _) hget rfl ?_;conv=>whnf
   refine h1.to ?_;conv=>whnf
   refine step_elem (Int.natCast_nonneg _) hget rfl ?_;conv=>whnf
   refine h2.to ?_;cases b
   ·conv=>whnf
    exact⟨_,rfl,hno rfl⟩
   conv=>whnf
   refine dx (xs:=TA.avs acc) (id:=0) (k:=4) (bytes:=72) (t:=175) hsz hs1 (by rw[bH];simp;omega) (by rw[bH];simp;omega) (by simp[TA.avs]) rfl ?_;conv=>whnf
   refine dx (xs:=TA.avs acc) (id:=1) (k:=4) (bytes:=72) (t:=109) hsz hs1 (by rw[bH];simp;omega) (by rw[bH];simp;omega) (by simp[TA.avs]) rfl ?_;conv=>whnf
   refine hG.keep [(0,.lst (aJ l) .none),(5,.lst (TA.avs acc ++[(TA.mk xk xn xs xl).av]) (bA (TA.avs acc ++[(TA.mk xk xn xs xl).av]).length 0)),(6,.lst (TA.avs acc ++[(TA.mk xk xn xs xl).av]) (bA (TA.avs acc ++[(TA.mk xk xn xs xl).av]).length 1)),(7,.int .i64 (j+1:Nat))]
    [aZ (TA.avs acc ++[(TA.mk xk xn xs xl).av]).length 175,aZ (TA.avs acc ++[(TA.mk xk xn xs xl).av]).length 109] (Nat.le_refl 2) rfl ⟨rfl,rfl,rfl,add1 (by omega),trivial⟩
    ⟨dS _ _ _ trivial,.lst _ _ (dI (show 0<2 by decide)) hlo,.lst _ _ (dI (show 1<2 by decide)) hlo,.int _ _,trivial⟩ ⟨bB _ _ _,bB _ _ _,trivial⟩ (hn2 rfl _)
 exact inv_of [(0,.lst (aJ l) .none),(5,.lst (TA.avs []) (bA 0 0)),(6,.lst (TA.avs []) (bA 0 1)),(7,.int .i64 (0:Nat))] ⟨rfl,rfl,rfl,rfl,trivial⟩ (key l.length 0 _ rfl (Nat.zero_le _) (fun s hs=>by cases hs))
end Go.Ag
/- cupellaw09.Made. -/
namespace Go.Ag
open Go
variable {T : Tab} {L : Lnk}
structure D9 (T:Tab):Prop extends zi T,UF T where
 Sj:T.has 155 Ox
theorem GA {l:List Bytes} {t:TA} (h:t∈gJ l):GT t∧wtT t≤2^19:=by
 unfold gJ at h;split at h
 ·rename_i ha
  obtain⟨s,hs,rfl⟩:=List.mem_map.1 h;have h1:=List.all_eq_true.1 ha s hs;unfold oL at h1;rw[Bool.and_eq_true,decide_eq_true_eq]at h1;have h2:=BU s (by omega) h1.2;have:(s.length+82)*(s.length+1)≤682*601:=Nat.mul_le_mul (by omega) (by omega);exact⟨h2.1,by omega⟩
 ·cases h
def sumOf (l:List TA):Nat:=(l.map szT).sum
theorem sz_le (t:TA):szT t≤wtT t:=by
 have:=BD _ t (Nat.le_refl _);show(allT t).length≤_;omega
theorem UN (F : D9 T) (src : Bytes) (l : List Bytes) (hs : src.length ≤ 600) (hl : l.length ≤ 2 ^ 20) (H : Heap) :
  aC T.L 155 [.str src, .lst (aJ l) .none] H fun r H' => ∃ e o0 o1, l7 (jh (gN src)) e ∧ H' = H ++ [o0, o1, .map (bZ e.by_ 0) e.by_.length, .map (gH e.empty 0) e.empty.length, .cells [.map (H.length + 2), .map (H.length + 3)] 234] ∧
   ((l.all oL = true ∧ (gN src).length ≤ 8 ∧ jd (gN src) ≤ 60 ∧ r = .ret (.tup [.ptr (H.length + 4) 0, .lst (gy (gN src)) .none, .lst (TA.avs (gJ l)) .none, .lst (TA.avs (gJ l)) .none, .bool (decide (sumOf (gJ l) ≤ 40))])) ∨
    r = .ret (.tup [.fA, .lst [] .nil, .lst [] .nil, .lst [] .nil, .bool false])) := by
 have hM := Xr F.tozi src hs
 have hP := Bb F.toUF l hl
 have hD := sD src hs
 have hDl := Ai src hs
 have hg := fun t (h : t ∈ gJ l) => GA h
 have h12 : l.all oL = true → (gJ l).length = l.length := fun h => by unfold gJ; rw [if_pos h, List.length_map]
 have hSm := MZ F.tozi (gN src) hDl (fun p hp => Nat.le_trans (hD p hp).2.2 (by decide)) .none trivial
 generalize gN src = D at hM hD hDl hSm ⊢
 generalize gJ l = ts at hP hg h12 ⊢
 refine aG F.Sj (by simp [Ox]) ?_
 have hLen : (TA.avs ts).length = ts.length := bH ts
 conv => whnf
 refine (hM _).mono fun r H' ⟨e, o0, o1, hok, e1, e2⟩ => ?_
 subst e1
 conv => whnf
 refine hP.to ?_
 conv => whnf
 by_cases h8 : D.length ≤ 8
 case neg =>
  rw [decide_eq_false h8]
  conv => whnf
  exact ⟨e, o0, o1, hok, e2, .inr rfl⟩
 rw [decide_eq_true h8]
 cases ha : (l.all oL && decide (l.length ≤ 12))
 ·conv => whnf
  exact ⟨e, o0, o1, hok, e2, .inr rfl⟩
 rw [Bool.and_eq_true, decide_eq_true_eq] at ha
 conv => whnf
 refine hSm.to ?_
 conv => whnf
 by_cases hz : jd D ≤ 60
 case neg =>
  rw [decide_eq_false hz]
  conv => whnf
  exact ⟨e, o0, o1, hok, e2, .inr rfl⟩
 rw [decide_eq_true hz]
 conv => whnf
 intro I hI hG
 have hsum : ∀ j, j ≤ ts.length → sumOf (ts.take j) ≤ j * 2 ^ 19 := fun j => by
  induction j with
  | zero => intro _; simp [sumOf]
  | succ j ih =>
   intro hj
   have h1 := ih (by omega)
   have h2 := sz_le ts[j]
   have h3 := (hg _ (List.getElem_mem (show j < ts.length by omega))).2
   unfold sumOf at h1 ⊢
   rw [List.take_succ_eq_append_getElem (by omega), List.map_append, List.sum_append_nat, List.map_singleton, List.sum_singleton]
   omega
 have hts : ts.length ≤ 12 := by rw [h12 ha.1]; exact ha.2
 have key : ∀ (d j : Nat) (e' : Env), ts.length - j = d → j ≤ ts.length →
   I (fZ e' [(9, .ptr (H.length + 4) 0), (10, .lst (gy D) .none), (12, .lst (TA.avs ts) .none), (13, .lst (TA.avs ts) .none), (15, .int .i64 (sumOf (ts.take j) : Nat)), (16, .int .i64 j)]) H' := by
  intro d
  induction d with
  | zero =>
   intro j e' hd hj
   have hjl : j = ts.length := by omega
   subst hjl
   rw [List.take_length]
   apply hI
   conv => whnf
   rw [hLen, show decide (((ts.length : Nat) : Int) < ((ts.length : Nat) : Int)) = false from decide_eq_false (by omega)]
   conv => whnf
   rw [show decide (((sumOf ts : Nat) : Int) ≤ 40) = decide (sumOf ts ≤ 40) from decide_eq_decide.2 (by omega)]
   exact ⟨e, o0, o1, hok, e2, .inl ⟨ha.1, h8, hz, rfl⟩⟩
  | succ d ihd =>
   intro j e' hd hj
   have hjl : j < ts.length := by omega
   have hget := nH hjl
   have hnext := fun e => ihd (j + 1) e (by omega) hjl
   have hs1 := hsum (j + 1) hjl
   have e3 : sumOf (ts.take (j + 1)) = sumOf (ts.take j) + szT ts[j] := by
    unfold sumOf
    rw [List.take_succ_eq_append_getElem hjl, List.map_append, List.sum_append_nat, List.map_singleton, List.sum_singleton]
   rw [e3] at hnext hs1
   have hwj := (hg _ (List.getElem_mem hjl)).2
   have hc := uD F.J2 _ ts[j] (Nat.lt_succ_self _) (by omega)
   generalize ts[j] = v at hget hc hnext hs1 hwj
   generalize sumOf (ts.take j) = m at hnext hs1 ⊢
   apply hI
   obtain ⟨vk, vn, vs, vl⟩ := v
   conv => whnf
   rw [hLen, cO hjl]
   conv => whnf
   refine step_elem (Int.natCast_nonneg _) hget rfl ?_
   conv => whnf
   refine hc.to ?_
   conv => whnf
   refine inv_of [(9, .ptr (H.length + 4) 0), (10, .lst (gy D) .none), (12, .lst (TA.avs ts) .none), (13, .lst (TA.avs ts) .none), (15, .int .i64 ((m + szT (.mk vk vn vs vl) : Nat) : Int)), (16, .int .i64 (j + 1 : Nat))] ⟨rfl, rfl, rfl, rfl, ?_, add1 (by omega), trivial⟩ (hnext _)
   show au.int .i64 (IntKind.i64.wrap (((m : Nat) : Int) + ((szT (.mk vk vn vs vl) : Nat) : Int))) = _
   rw [IntWalk.i64_in _ (by omega)]
   congr 1
 exact inv_of [(9, .ptr (H.length + 4) 0), (10, .lst (gy D) .none), (12, .lst (TA.avs ts) .none), (13, .lst (TA.avs ts) .none), (15, .int .i64 (0 : Nat)), (16, .int .i64 (0 : Nat))] ⟨rfl, rfl, rfl, rfl, rfl, rfl, trivial⟩ (key ts.length 0 _ rfl (Nat.zero_le _))
theorem M4 (F:D9 T) (src:Bytes) (l:List Bytes) (hs:600<src.length) (hl:l.length≤2^20):Pure T.L 155 [.str src,.lst (aJ l) .none] (.tup [.fA,.lst [] .nil,.lst [] .nil,.lst [] .nil,.bool false]):=by
 have hP:=Bb F.toUF l hl;refine Pure.run (gD.at ⟨.str _,dS _ _ _ trivial,trivial⟩) (.tup _ (gD.at ⟨.fA,.lst _ _ trivial fP,.lst _ _ trivial fP,.lst _ _ trivial fP,.bool _,trivial⟩)) (aG F.Sj (by simp[Ox]) ?_);conv=>whnf
 refine(QE F.tozi src hs).to ?_;conv=>whnf
 refine hP.to ?_;conv=>whnf
 exact aH (Weak.refl _)
end Go.Ag
/- Package cupellaw10: alive. -/
namespace Go.Ag
open Go
variable {T : Tab} {L : Lnk}
def tR1 :TA:=.mk 5 [] [[97]] [.mk 1 [] [] []]
def tR2 :TA:=.mk 5 [] [[97],[98]] [.mk 2 [] [] [],.mk 1 [] [] []]
theorem XO :iZ [123,97,58,32,105,110,116,125,32,124,32,123,97,58,32,98,111,111,108,44,32,98,58,32,105,110,116,125]=(uT tR1 tR2,true):=by kernel_rfl
theorem Ny :NT tR1:=.rcd _ _ (by decide) rfl (fun n hn=>by
 rw[List.mem_singleton]at hn;subst hn;exact g97) fun t ht=>by rw[List.mem_singleton]at ht;subst ht;exact .int
theorem Nw :NT tR2:=.rcd _ _ (by decide) rfl (fun n hn=>by
 simp only[List.mem_cons,List.not_mem_nil,or_false]at hn;rcases hn with rfl|rfl
 ·exact g97
 ·exact g98) fun t ht=>by
 simp only[List.mem_cons,List.not_mem_nil,or_false]at ht;rcases ht with rfl|rfl
 ·exact .bool
 ·exact .int
theorem KN {e:d9} {C:List TA} (W:kS [] e C) (hx:GC' C (uT tR1 tR2)):gives (eT [97]) (hdE e (uT tR1 tR2))=(lF [.mk 2 [] [] [],.mk 1 [] [] []],0)∧gives (eT [98]) (hdE e (uT tR1 tR2))=(dH,2):=by
 have hj:=IE (by_:=[]) (Mw Ny.gt Nw.gt) (by simp);have h2:∀{P:TA→Prop},(∃t∈[tR1,tR2],P t)↔P tR1∨P tR2:=fun{P}=>by simp
 have s1:∀x,Spr [] tR1 x↔x=tR1:=fun x=>yj (by decide) (by decide)
 have s2:∀x,Spr [] tR2 x↔x=tR2:=fun x=>yj (by decide) (by decide)
 rw[h2,jK Ny,jK Nw,s1,s2]at hj;have hn:¬(dH=tR1∨dH=tR2):=by rintro(h|h)<;>exact absurd (congrArg TA.kind h) (by decide)
 have hm:∀x,x∈hdE e (uT tR1 tR2)↔x=tR1∨x=tR2:=fun x=>W.Yp hx (fun x=>by
  have:=hj.2 hn x;rw[h2,jK Ny,jK Nw,s1,s2]at this
  exact this) (by decide) (by decide)
 have h4:∀h∈hdE e (uT tR1 tR2),h.kind≠4:=fun h hh=>by rcases(hm h).1 hh with rfl|rfl<;>decide
 have f1:eT [97] tR1=some (.mk 1 [] [] []):=by kernel_rfl
 have f2:eT [97] tR2=some (.mk 2 [] [] []):=by kernel_rfl
 have f3:eT [98] tR1=none:=by kernel_rfl
 constructor
 ·rcases zU (part:=eT [97]) h4 with⟨h,_⟩|⟨_,t,ht,h⟩
  ·rw[h]
   congr 1
   have hmem:∀x,x∈(hdE e (uT tR1 tR2)).filterMap (eT [97])↔x∈[TA.mk 2 [] [] [],.mk 1 [] [] []]:=fun x=>by
    rw[List.mem_filterMap];simp only[List.mem_cons,List.not_mem_nil,or_false];constructor
    ·rintro⟨h,hh,he⟩
     rcases(hm h).1 hh with rfl|rfl
     ·rw[f1]at he;cases he;exact .inr rfl
     ·rw[f2]at he;cases he;exact .inl rfl
    ·rintro(rfl|rfl)
     ·exact⟨tR2,(hm _).2 (.inr rfl),f2⟩
     ·exact⟨tR1,(hm _).2 (.inl rfl),f1⟩
   have hk:∀t∈[TA.mk 2 [] [] [],.mk 1 [] [] []],NT t∧t.kind≠7:=fun t ht=>by
    simp only[List.mem_cons,List.not_mem_nil,or_false]at ht;rcases ht with rfl|rfl
    ·exact⟨.bool,by decide⟩
    ·exact⟨.int,by decide⟩
   refine Mg (fun t ht=>hk t ((hmem t).1 ht)) hk (fun h0=>?_) (by simp) (hmem _) fun _=>hmem
   have:=(hmem (.mk 2 [] [] [])).2 (by simp);rw[h0]at this;cases this
  ·rcases(hm t).1 ht with rfl|rfl
   ·rw[f1]at h;cases h
   ·rw[f2]at h;cases h
 ·rcases zU (part:=eT [98]) h4 with⟨_,h⟩|⟨h,_⟩
  ·have:=h tR1 ((hm _).2 (.inl rfl))
   rw[f3]at this;cases this
  ·exact h
theorem NP :NT (.mk 7 [] [] [.mk 2 [] [] [],.mk 1 [] [] []]):=.uni _ (by decide) (fun t ht=>by
  simp only[List.mem_cons,List.not_mem_nil,or_false]at ht;rcases ht with rfl|rfl
  ·exact .bool
  ·exact .int) (fun t ht=>by
  simp only[List.mem_cons,List.not_mem_nil,or_false]at ht
  rcases ht with rfl|rfl<;>exact⟨by decide,by decide⟩) (by
  rw[List.pairwise_cons];refine⟨fun t ht=>?_,List.pairwise_singleton _ _⟩;rw[List.mem_singleton]at ht;subst ht
  rw[sN,oP];decide)
theorem QB :prT (lF [.mk 2 [] [] [],.mk 1 [] [] []]) 0=[98,111,111,108,32,124,32,105,110,116]:=by
 show prT (aU _) 0=_;rw[jK NP]
 kernel_rfl
theorem Ib (F : wE T) (G : zf T) (P5 : T.has 154 KI) : Pure T.L 154 [] (.bool true) := by
  have hty := F3 G [123, 97, 58, 32, 105, 110, 116, 125, 32, 124, 32, 123, 97, 58, 32, 98, 111, 111, 108, 44, 32, 98, 58, 32, 105, 110, 116, 125] (by decide)
  rw [XO] at hty
  have hw0 : wtT (uT tR1 tR2) ≤ 2 ^ 22 := by decide
  have hs0 : szT (uT tR1 tR2) ≤ 100 := by decide
  have hr : ∀ e, l7 (jh []) e → EK T.L 156 [(uT tR1 tR2).av, .str [97]] e (.tup [(lF [.mk 2 [] [] [], .mk 1 [] [] []]).av, .int .i64 0]) ∧ EK T.L 156 [(uT tR1 tR2).av, .str [98]] e (.tup [dH.av, .int .i64 2]) := fun e hok => by
    obtain ⟨C, W, hC, hB⟩ := XH (D := []) (ts := [uT tR1 tR2]) (fun p hp => by cases hp) (by decide) (by decide) (fun t ht => by
      rw [List.mem_singleton] at ht; subst ht
      exact ⟨XB Ny.gt Nw.gt, hw0, hs0⟩) (by decide) hok
    have hx := hC _ (List.mem_singleton.2 rfl)
    have hb := hB _ (List.mem_singleton.2 rfl)
    have g := KN W hx
    have r1 := xW F W hx hb [97]
    have r2 := xW F W hx hb [98]
    rw [g.1] at r1
    rw [g.2] at r2
    exact ⟨r1, r2⟩
  have hN := fun H => UM F.tozq [] (by decide) (fun p hp => by cases hp) (fun p hp => by cases hp) .nil H
  have hT := EnvS.U1 F.toxR (u := lF [.mk 2 [] [] [], .mk 1 [] [] []]) (by show NT (aU _); rw [jK NP]; exact NP) (by show wtT (aU _) ≤ _; rw [jK NP]; decide)
  rw [QB] at hT
  generalize lF [.mk 2 [] [] [], .mk 1 [] [] []] = J at hr hT
  generalize uT tR1 tR2 = U at hty hr
  have lU := aT 0 U
  have lJ := aT 0 J
  refine Pure.run fP (.bool _) (wD P5 (by simp [KI]) ?_)
  show dQ T.L KI.body _ [] _
  refine vH (P := fun e H => (∃ a b c, H = [dM U, a, b, c, dM J] ∧ fJ e [(1, .ptr 0 0), (2, .bool true), (3, .ptr 4 0), (4, .int .i64 0)]) ∨ (∃ a b c, H = [dM U, dM J, a, b, c] ∧ fJ e [(1, .ptr 0 0), (2, .bool true), (3, .ptr 1 0), (4, .int .i64 0)])) 3 _ _ _ (jv _ _ _ _ ?_) fun e1 H1 h1 => ?_
  · obtain ⟨uk, un, us, ul⟩ := U
    obtain ⟨jk, jn, js, jl⟩ := J
    conv => whnf
    refine hty.to ?_
    have hl1 : ∀ x ∈ [(TA.mk uk un us ul).av, .str [97]], Low 0 x := gD.at ⟨lU, .str _, trivial⟩
    have hl2 : Low 0 (.tup [(TA.mk jk jn js jl).av, .int .i64 0]) := .tup _ (gD.at ⟨lJ, .int _ _, trivial⟩)
    conv => whnf
    refine ⟨?_, ?_⟩
    iterate 14 all_goals (
      try first
      | exact .inl ⟨_, _, _, rfl, rfl, rfl, rfl, rfl, trivial⟩
      | exact .inr ⟨_, _, _, rfl, rfl, rfl, rfl, rfl, trivial⟩
      | (refine (hN _).mono fun r H' ⟨e, hok, q1, q2⟩ => ?_
         subst q1 q2)
      | refine (hr e hok).1.any hl1 hl2 ⟨rfl, rfl, rfl⟩ ?_
      | refine ⟨?_, ?_⟩
      try (conv => whnf))
  rcases h1 with ⟨a, b, c, rfl, he⟩ | ⟨a, b, c, rfl, he⟩
  all_goals
    refine jv _ _ _ _ ?_
    rw [← yw he]
    clear he
    obtain ⟨uk, un, us, ul⟩ := U
    obtain ⟨jk, jn, js, jl⟩ := J
    have hl1 : ∀ x ∈ [(TA.mk uk un us ul).av, .str [98]], Low 0 x := gD.at ⟨lU, .str _, trivial⟩
    have hl2 : Low 0 (.tup [dH.av, .int .i64 2]) := .tup _ (gD.at ⟨aT _ _, .int _ _, trivial⟩)
    conv => whnf
    refine ⟨?_, ?_⟩
    iterate 18 all_goals (
      try first
      | exact aH (Weak.refl _)
      | (refine (hN _).mono fun r H' ⟨e, hok, q1, q2⟩ => ?_
         subst q1 q2)
      | refine (hr e hok).2.any hl1 hl2 ⟨rfl, rfl, rfl⟩ ?_
      | refine hT.to ?_
      | refine ⟨?_, ?_⟩
      try (conv => whnf))
end Go.Ag
/- An argument that is a slice of strings, opened. -/
namespace Go.Ag
open Go Go.Deep Go.ChangeShapes Go.WideShapes
variable {L : Lnk}
theorem Iz (g:aA):∀l:List Bytes,aW L g (l.map fun s=>Value.string ⟨s.toArray⟩) (flat (aJ l))
 |[]=>.nil
 |x::l=>.cons _ _ _ _ (.str _) (Iz g l)
theorem open_strs {H : Type} {enc : TypeId × Value → H} {W : World} {spare : Nat → Bool} {held : Bool} {t e : TypeId} {fuel : Nat} {v : Value} {x : DataW H × List MemPlace}
  (ht : L.P.underlying t = some (.slice e)) (he : L.P.underlying e = some .string) (ce : L.P.cellsOf e = 1)
  (h : DataW.trod enc L.P W 0 spare held fuel t [v] = some x) : ∃ l : List Bytes, Rep L (aA.start W) v (.lst (aJ l) .none) := by
 rcases open_slice ht h with ⟨h1, h2⟩ | ⟨a, len, cap, m, n, D, Pl, h1, hb, hl, hm, hmm, h2, hx⟩
 ·refine ⟨[], ?_⟩
  obtain rfl : v = .slice none 0 0 := by simpa using h1
  exact .lst none 0 1 0 0 [] [] .none (fun h => absurd rfl h) (fun j u hu => by simp at hu) (fun x hx => by cases hx) (Nat.le_refl _) trivial .nil
 obtain rfl : v = .slice (some a) len cap := by simpa using h1
 have hlm : len ≤ m := by rw [hmm]; split <;> omega
 have each : ∀ i, i < m → ∃ y : Bytes, W.cell? (a.add i) = some (.string ⟨y.toArray⟩) := by
  intro i hi
  obtain ⟨cs', g1, g2⟩ := hx i hi
  rw [ce] at g1
  obtain ⟨_, hlen, hcell⟩ := World.cells?_some g1
  match cs', hlen with
  | [v0], _ =>
   obtain ⟨z, q, _, _⟩ := DataW.trod_string he g2
   have := hcell 0 (by decide)
   rw [add_add, Nat.mul_one, Nat.add_zero] at this
   simp only [List.cons.injEq, and_true] at q
   subst q
   exact ⟨z.data.toList, by rw [this]; simp⟩
 obtain ⟨Y, hY⟩ := choose_lt each
 refine ⟨(List.range len).map Y, ?_⟩
 have hcells : ∀ (j : Nat) (u : Value), (((List.range len).map Y).map fun s => Value.string ⟨s.toArray⟩)[j]? = some u → W.cell? (a.add j) = some u := fun j u hu => by
  rw [List.getElem?_map, List.getElem?_map] at hu
  rcases Nat.lt_or_ge j len with hj | hj
  ·rw [List.getElem?_range hj] at hu
   cases hu
   exact hY j (by omega)
  ·rw [List.getElem?_eq_none (by simpa using hj)] at hu; cases hu
 have ha : (List.range len).map Y ≠ [] → a = ⟨a.block, a.off, none⟩ := fun hne => by
  have h0 : 0 < len := by
   rcases Nat.eq_zero_or_pos len with h | h
   ·subst h; simp at hne
   ·exact h
  have := hY 0 (by omega)
  obtain ⟨ab, ao, sp⟩ := a
  cases sp with
  | none => rfl
  | some q =>
   simp [Addr.add, World.cell?] at this
   split at this <;> cases this
 have key := Rep.lst (L := L) (g := aA.start W) (some a) cap 1 a.block a.off (aJ ((List.range len).map Y)) (((List.range len).map Y).map fun s => Value.string ⟨s.toArray⟩) .none
  (fun hne => by rw [← ha (fun e => hne (by rw [e]; rfl))])
  (fun j u hu => by
   have hne : (List.range len).map Y ≠ [] := fun e => by rw [e] at hu; simp at hu
   have := hcells j u hu
   rw [ha hne, addr_add] at this
   exact this)
  (fun y hy => by
   simp only [aJ, List.mem_map] at hy
   obtain ⟨z, _, rfl⟩ := hy; rfl) (by simpa [aJ] using hl) trivial (Iz _ _)
 simpa [aJ] using key
end Go.Ag
/- Library functions whose contracts are told of the machine: made abstract contracts. -/
namespace Go.Ag
open Go
open Go.RowKit (Below)
variable {L : Lnk}
theorem below_drewN (w:World) (n:Nat):Below w.heap.size w (w.drewN n):=⟨rfl,rfl,rfl,Nat.le_refl _,fun _ _=>rfl⟩
theorem u6 {f:Nat} {args:List au} {H:Heap} {x:au}
  (hc:∀g w vs,St L g w H→aW L g vs args→∃v,Rep L g v x∧Calls L.P (L.num f) vs.toArray w fun e w'=>e=.returned v∧Below w.heap.size w w'):
  aC L f args H fun r H'=>r=.ret x∧H'=H:=fun g w vs hs hr=>by
 obtain⟨v,h1,h2⟩:=hc g w vs hs hr;exact h2.mono fun e w' ⟨h3,h4⟩=>⟨.ret x,H,g,⟨rfl,rfl⟩,aA.le.refl g,hs.wider h4,v,h3,h1⟩
theorem Qd {f:Nat} {args:List au} {H:Heap} {x:au}
  (hc:∀g w vs,St L g w H→aW L g vs args→Calls L.P (L.num f) vs.toArray w fun e w'=>(∃v,e=.returned v∧Rep L g v x)∧Below w.heap.size w w'):
  aC L f args H fun r H'=>r=.ret x∧H'=H:=fun g w vs hs hr=>by
 exact(hc g w vs hs hr).mono fun e w' ⟨⟨v,h3,h1⟩,h4⟩=>⟨.ret x,H,g,⟨rfl,rfl⟩,aA.le.refl g,hs.wider h4,v,h3,h1⟩
theorem EI {g:aA} {vs:List Value} {a:au} (h:aW L g vs [a]):∃v,vs=[v]∧Rep L g v a:=by
 cases h with|cons v _ _ _ h hs=>cases hs;exact⟨v,rfl,h⟩
theorem I6 {g:aA} {vs:List Value} {a b:au} (h:aW L g vs [a,b]):∃v u,vs=[v,u]∧Rep L g v a∧Rep L g u b:=by
 cases h with|cons v _ _ _ h hs=>obtain⟨u,rfl,h2⟩:=EI hs;exact⟨v,u,rfl,h,h2⟩
end Go.Ag
/- The library's contracts of the laws: from the machine's to abstract ones. -/
namespace Go.Ag
open Go
open Go.RowKit (Below)
variable {L : Lnk}
theorem Xz (c:UInt8):∀(a b:Bytes),c∉a→Lib.index (a ++c::b) [c]=a.length
 |[],b,_=>by simp[Lib.index]
 |x::a,b,h=>by
  simp only[List.mem_cons,not_or]at h;have ih:=Xz c a b h.2;simp only[List.cons_append,Lib.index];rw[if_neg (by simp[h.1]),ih,if_neg (by simp<;>omega)];simp
theorem Xy (c:UInt8):∀(a:Bytes),c∉a→Lib.index a [c]= -1
 |[],_=>rfl
 |x::a,h=>by
  simp only[List.mem_cons,not_or]at h;simp only[Lib.index];rw[if_neg (by simp[h.1]),Xy c a h.2];rfl
theorem DI (c:UInt8):∀s:Bytes,(∃a b,s=a ++c::b∧c∉a∧DJ c s=(a,b,true))∨(c∉s∧DJ c s=(s,[],false))
 |[]=>.inr ⟨by simp,rfl⟩
 |x::s=>by
  by_cases h:x=c
  ·subst h
   exact .inl ⟨[],s,rfl,by simp,by simp[DJ]⟩
  ·rcases DI c s with⟨a,b,rfl,h1,h2⟩|⟨h1,h2⟩
   ·refine .inl ⟨x::a,b,rfl,by simp[Ne.symm h,h1],?_⟩
    simp only[DJ,Prod.mk.injEq]at h2⊢;obtain⟨e1,e2,e3⟩:=h2;refine⟨?_,?_,by simp⟩
    ·rw[List.takeWhile_cons,if_pos (by simpa using h),e1]
    ·rw[List.dropWhile_cons,if_pos (by simpa using h),e2]
   ·refine .inr ⟨by simp[Ne.symm h,h1],?_⟩
    simp only[DJ,Prod.mk.injEq]at h2⊢;obtain⟨e1,e2,e3⟩:=h2;refine⟨?_,?_,?_⟩
    ·rw[List.takeWhile_cons,if_pos (by simpa using h),e1]
    ·rw[List.dropWhile_cons,if_pos (by simpa using h),e2]
    ·rw[List.any_cons,e3];simpa using h
theorem Xj (c:UInt8) (s:Bytes):Lib.cut s [c]=DJ c s:=by
 unfold Lib.cut;rcases DI c s with⟨a,b,rfl,h,e⟩|⟨h,e⟩
 ·rw[Xz c a b h,e,if_pos (by omega)]
  simp
 ·rw[Xy c s h,e]
  rfl
theorem C9 (sep:Bytes):∀ws:List Bytes,Lib.join ws sep=iQ sep ws
 |[]=>rfl
 |[w]=>Lib.join_one w sep
 |w::u::r=>by
  have ih:=C9 sep (u::r);rw[Lib.join_cons]at ih⊢;simp only[iQ];rw[←ih];simp[Lib.joinTail]
theorem BZ (s:Bytes):(⟨s.toArray⟩:ByteArray).data.toList=s:=by simp
theorem sizeB (s:Bytes):(⟨s.toArray⟩:ByteArray).size=s.length:=by show s.toArray.size=_;simp
theorem EH {g:aA} {vs:List Value}:∀{l:List Bytes},aW L g vs (aJ l)→vs=l.map fun s=>.string ⟨s.toArray⟩:=fun{l} h=>by
 induction l generalizing vs with
 |nil=>cases h;rfl
 |cons s l ih=>
  simp only[aJ,List.map_cons]at h
  cases h with
  |cons v _ vs _ h hs=>rw[iP h,ih hs];rfl
theorem sJ {g:aA}:∀l:List Bytes,aW L g (l.map fun s=>Value.string ⟨s.toArray⟩) (aJ l)
 |[]=>.nil
 |s::l=>.cons _ _ _ _ (.str s) (sJ l)
theorem Ce {g:aA} {w:World} {H:Heap} (hs:St L g w H) {v:Value} {l:List Bytes} {tk:Tok} (h:Rep L g v (.lst (aJ l) tk)):
  ∃a c,v=.slice a l.length c∧l.length≤c∧(l≠[]→∃b o,a=some ⟨b,o,none⟩∧b<w.heap.size∧∀(j:Nat) s,l[j]?=some s→w.cell? ⟨b,o+j,none⟩=some (.string ⟨s.toArray⟩)):=by
 obtain⟨a,c,k,b,o,vs,rfl,h1,h2,_,h4,_,h6⟩:=lI h;rw[rV]at h6;have hv:=EH h6;have hl:(aJ l).length=l.length:=by simp[aJ]
 rw[hl]at h4⊢;refine⟨a,c,rfl,h4,fun hne=>⟨b,o,h1 (by intro e;apply hne;simpa[aJ]using e),?_,fun j s hj=>?_⟩⟩
 ·obtain⟨s,l',rfl⟩:=List.exists_cons_of_ne_nil hne
  have:=h2 0 (.string ⟨s.toArray⟩) (by rw[hv];rfl);exact hs.Dm this
 ·exact hs.fz b (o+j) _ (h2 j _ (by rw[hv];simp[hj]))
structure mQ (L:Lnk)where
 P9:Nat
 Q8:TypeId
 indexByte:∀(s:ByteArray) (c:Int) (w:World),Calls L.P (L.num 49) #[.string s,.int .u8 c] w fun e w'=>e=.returned (.int .i64 (Lib.indexByte s.data.toList c.toNat.toUInt8))∧w'=w
 cut:∀(s sep:ByteArray) (m:Int) (w:World),s.size<4294967281→w.cell? ⟨P9,0,none⟩=some (.int .i64 m)→
  Calls L.P (L.num 22) #[.string s,.string sep] w fun e w'=>e=.returned (.tuple #[.string ⟨(Lib.cut s.data.toList sep.data.toList).1.toArray⟩,.string ⟨(Lib.cut s.data.toList sep.data.toList).2.1.toArray⟩,.bool (Lib.cut s.data.toList sep.data.toList).2.2])∧∃n,w'=w.drewN n
 JG:∀(a:Option Addr) (c:Nat) (sep:ByteArray) (w:World),Calls L.P (L.num 20) #[.slice a 0 c,.string sep] w fun e w'=>e=.returned (.string ⟨[].toArray⟩)∧Below w.heap.size w w'
 join:∀(bk o c:Nat) (xs:List ByteArray) (sep:ByteArray) (w:World),(∀(j:Nat) x,xs[j]?=some x→w.cell? ⟨bk,o+j,none⟩=some (.string x))→bk<w.heap.size→xs.length≤140737488355328→xs.length≤c→
  (Lib.join (xs.map (·.data.toList)) sep.data.toList).length≤140737488355328→
  Calls L.P (L.num 20) #[.slice (some ⟨bk,o,none⟩) xs.length c,.string sep] w fun e w'=>e=.returned (.string ⟨(Lib.join (xs.map (·.data.toList)) sep.data.toList).toArray⟩)∧Below w.heap.size w w'
 clone:∀(b off n c:Nat) (zs:List ByteArray) (w:World),n≤zs.length→n*16≤140737488355328→(∀j,j<zs.length→w.cell? ⟨b,off+j,none⟩=some (.string (zs.getD j ByteArray.empty)))→
  Calls L.P (L.num 208) #[.slice (some ⟨b,off,none⟩) n c] w fun e w'=>∃v',e=.returned v'∧w'.ownsRow w.heap.size Q8 1 v' n ((zs.take n).map (Value.string))∧v'≠.slice none 0 0∧Below w.heap.size w w'
 Ky:∀(n c:Nat) (w:World),Calls L.P (L.num 208) #[.slice none n c] w fun e w'=>e=.returned (.slice none 0 0)∧w'=w
 FQ:∀(a:Addr) (c:Nat) (w:World),Calls L.P (L.num 208) #[.slice (some a) 0 c] w fun e w'=>∃v',e=.returned v'∧w'.ownsRow w.heap.size Q8 1 v' 0 []∧v'≠.slice none 0 0∧Below w.heap.size w w'
 st:∀w0 base,L.start w0 base→P9<base∧∃m,w0.cell? ⟨P9,0,none⟩=some (.int .i64 m)
theorem mQ.VJ (M:mQ L):OG L where
 join:=fun ws sep h1 h2 H=>u6 fun g w vs hs hr=>by
  obtain⟨v,u,rfl,r1,r2⟩:=I6 hr;rw[iP r2];obtain⟨a,c,rfl,hc,hcell⟩:=Ce hs r1;refine⟨_,.str _,?_⟩
  cases ws with
  |nil=>exact M.JG a c _ w
  |cons s ws=>
   obtain⟨b,o,rfl,hb,hcell⟩:=hcell (by simp)
   have hmm:((s::ws).map fun s=>(⟨s.toArray⟩:ByteArray)).map (·.data.toList)=s::ws:=by
    rw[List.map_map];exact(List.map_congr_left (g:=id) fun x _=>by simp).trans (List.map_id _)
   have:=M.join b o c ((s::ws).map fun s=>⟨s.toArray⟩) ⟨sep.toArray⟩ w (fun j x hx=>by
    rw[List.getElem?_map]at hx
    cases hj:(s::ws)[j]? with
    |none=>rw[hj]at hx;cases hx
    |some y=>rw[hj]at hx;cases hx;exact hcell j y hj) hb (by simp at h2⊢;omega) (by simpa using hc) (by rw[hmm,BZ,C9];omega)
   rw[hmm,BZ,C9]at this;simpa using this
theorem Xe {f : Nat} {args : List au} {H : Heap} {xs : List au} {t : TypeId} (hk : ∀ x ∈ xs, x.cells.length = 1)
  (hc : ∀ g w vs, St L g w H → aW L g vs args → ∃ us, aW L g us (flat xs) ∧
   Calls L.P (L.num f) vs.toArray w fun e w' => ∃ v', e = .returned v' ∧ w'.ownsRow w.heap.size t 1 v' xs.length us ∧ Below w.heap.size w w') :
  aC L f args H fun r H' => r = .ret (.lst xs .none) ∧ H' = H := fun g w vs hs hr => by
 obtain ⟨us, h1, h2⟩ := hc g w vs hs hr
 refine h2.mono fun e w' ⟨v', e1, hown, hb⟩ => ?_
 have hs1 := hs.wider hb
 rcases hown.2 with ⟨rfl, h0⟩ | ⟨gb, cap, cur, rfl, hge, hblk, hcap, _, _, hcells⟩
 ·obtain rfl : xs = [] := List.eq_nil_of_length_eq_zero h0
  exact ⟨.ret (.lst [] .none), H, g, ⟨rfl, rfl⟩, aA.le.refl g, hs1, _, e1, .lst none 0 1 0 0 [] [] .none (fun h => absurd rfl h) (fun j v h => by simp at h) (by simp) (Nat.le_refl 0) trivial .nil⟩
 ·have hul : us.length = xs.length := by have := hown.1; omega
  have hkp : g.kp gb = none := by
   cases hq : g.kp gb with
   | none => rfl
   | some o => have := hs.JD hq; omega
  have hf : ∀ o, 0 ≤ o → o < 0 + us.length → g.fz gb o = none := fun o _ _ => by
   cases hq : g.fz gb o with
   | none => rfl
   | some v => have := hs.Dm hq; omega
  have hle := aA.mH hkp hf
  have h8 : St L (g.iJ gb 0 us) w' H := hs1.nC hkp hf (fun j v hv => by
   rw [Nat.zero_add]
   have h3 : cur.toList[j]? = some v := by
    have h4 : (cur.toList.take (xs.length * 1))[j]? = some v := by rw [hcells]; exact hv
    rw [List.getElem?_take] at h4
    split at h4
    ·exact h4
    ·cases h4
   simp only [World.cell?, hblk, Option.isSome_none, Bool.false_eq_true, if_false]
   simpa using h3) (fun id o s _ _ hq => by have := hs.bnd _ _ _ hq; omega)
  exact ⟨.ret (.lst xs .none), H, _, ⟨rfl, rfl⟩, hle, h8, _, e1, .lst _ _ 1 gb 0 xs us .none (fun _ => rfl) (fun j v hv => aA.nU _ _ _ _ j v hv) hk hcap trivial (h1.mono hle)⟩
theorem mQ.MQ (M:mQ L) (ns:List Bytes) (hn:ns.length≤2^40):Pure L 208 [.lst (aJ ns) .none] (.lst (aJ ns) .none):=fun H=>by
 refine Xe (t:=M.Q8) (fun x hx=>by
  simp only[aJ,List.mem_map]at hx;obtain⟨s,_,rfl⟩:=hx
  rfl) fun g w vs hs hr=>?_
 obtain⟨v,rfl,h⟩:=EI hr;obtain⟨a,c,rfl,hc,hcell⟩:=Ce hs h;have hl:(aJ ns).length=ns.length:=by simp[aJ]
 rw[rV,hl];refine⟨_,sJ ns,?_⟩
 cases ns with
 |nil=>
  cases a with
  |none=>exact(M.Ky 0 c w).mono fun e w' ⟨e1,e2⟩=>⟨_,e1,⟨rfl,.inl ⟨rfl,rfl⟩⟩,e2▸Below.refl _ _⟩
  |some a=>exact(M.FQ a c w).mono fun e w' ⟨v',e1,e2,_,e3⟩=>⟨v',e1,e2,e3⟩
 |cons s ns=>
  obtain⟨b,o,rfl,hb,hcell⟩:=hcell (by simp)
  have h3:=M.clone b o (s::ns).length c ((s::ns).map fun s=>⟨s.toArray⟩) w (by simp) (by omega) (fun j hj=>by
   have hj':j<(s::ns).length:=by simpa using hj
   rw[hcell j (s::ns)[j] (List.getElem?_eq_getElem hj')]
   simp only[List.getD_eq_getElem?_getD,List.getElem?_map,List.getElem?_eq_getElem hj',Option.map_some,Option.getD_some])
  refine h3.mono fun e w' ⟨v',e1,e2,_,e3⟩=>⟨v',e1,?_,e3⟩
  rw[List.take_of_length_le (by simp),List.map_map]at e2;exact e2
theorem ixb (c:UInt8):∀l:Bytes,decide (Lib.indexByte l c≥0)=inA c l
 |[]=>rfl
 |b::l=>by
  have ih:=ixb c l;have hge:=Lib.indexByte_ge l c;unfold inA at ih⊢;rw[List.any_cons,Lib.indexByte,←ih];cases hb:(b==c)
  ·simp only[Bool.false_eq_true,if_false,Bool.false_or]
   by_cases h1:Lib.indexByte l c= -1
   ·rw[h1];rfl
   ·rw[if_neg (by simpa using h1)]
    have:Lib.indexByte l c≥0:=by omega
    rw[decide_eq_true this];exact decide_eq_true (by omega)
  ·simp
theorem mQ.lex (M:mQ L):UR L where
 idx:=fun c=>⟨Lib.indexByte kW c,ixb c kW,fun H=>u6 fun g w vs hs hr=>by
  obtain⟨v,u,rfl,h1,h2⟩:=I6 hr;rw[iP h1,gI h2];refine⟨_,.int _ _,(M.indexByte _ _ w).mono fun e w' ⟨e1,e2⟩=>⟨?_,e2▸Below.refl _ _⟩⟩;rw[e1,BZ]
  simp⟩
 cut:=fun c s hs0 H=>u6 fun g w vs hs hr=>by
  obtain⟨v,u,rfl,h1,h2⟩:=I6 hr;rw[iP h1,iP h2];obtain⟨q1,m,q2⟩:=M.st _ _ hs.fact;have hm:w.cell? ⟨M.P9,0,none⟩=some (.int .i64 m):=(hs.below.cell (p:=⟨M.P9,0,none⟩) q1).trans q2;refine⟨_,.tup [_,_,_] _ (.cons _ _ _ _ (.str _) (.cons _ _ _ _ (.str _) (.cons _ _ _ _ (.bool _) .nil))),(M.cut _ _ m w (by rw[sizeB];omega) hm).mono fun e w' ⟨e1,n,e2⟩=>⟨?_,e2▸below_drewN _ _⟩⟩;rw[e1,BZ,BZ,Xj]
end Go.Ag
/- The library's sorts: what they do to a row. -/
namespace Go.Ag
open Go Go.Sort Go.Proofs
open Go.RowKit (Below)
variable {L : Lnk} {g : aA} {w : World} {H : Heap}
theorem I4 (hs:St L g w H) {id v t k:Nat} {xs ys:List au} {s:jQ} {cur cur':Array Value} {w':World} (hH:H[id]?=some (.arr v xs t)) (hs':g.ob id v=some s) (hsk:s.k=k)
  (hcur:w.heap[s.b]?=some (.cells cur (L.ty t) (0,0))) (hcur':w'.heap[s.b]?=some (.cells cur' (L.ty t) (0,0))) (hsize:cur'.size=cur.size) (hy:∀y∈ys,y.cells.length=k) (hlen:ys.length=xs.length)
  (hother:∀b,b≠s.b→b<w.heap.size→w'.heap[b]?=w.heap[b]?) (hsz:w.heap.size≤w'.heap.size) (hos:w'.os=w.os) (htp:w'.tape=w.tape) (hout:w'.output=w.output)
  (hrep:aW L g (cur'.toList.take (ys.length*k)) (flat ys)):St L g w' (H.set id (.arr v ys t)):=by
 obtain⟨s0,cur0,e1,e0,e2,e3,e4,e5,e6,e7,e8,e9,e10⟩:=hs.obj id _ hH;rw[hs']at e1;cases e1;rw[hcur]at e4;cases e4
 exact hs.K8 (s1:=s) hH rfl hs' (aA.le.refl g) rfl rfl rfl (fun _ _ _=>rfl) (fun _ s2 h2=>.inl h2) (fun _=>hs') (.inl rfl) (Nat.lt_of_lt_of_le (hs.bnd _ _ _ hs') hsz) e9 (by rw[hcur];simp)
  hother hsz hos htp hout
  ⟨s,cur',hs',e0,e2,e3,hcur',hsize.trans e5,fun x hx=>by rw[hsk];exact hy x hx,by rw[hlen];exact e7,by rw[hsk];exact hrep,e9,e10⟩
theorem J3 {w:World} {blk n:Nat} {f:Array Value→Array Value} {os:Array Obj} {cur:Array Value} {t:TypeId} (h:w.heap[blk]?=some (.cells cur t (0,0))):
  (grow (mapBlock (Sort.ahead w n) blk f) os).heap[blk]?=some (.cells (f cur) t (0,0)):=by
 have hlt:blk<w.heap.size:=(Array.getElem?_eq_some_iff.1 h).1;show(w.heap.modify blk (onCells f) ++os)[blk]?=_;rw[Array.getElem?_append_left (by simpa using hlt),Array.getElem?_modify,if_pos rfl,h];rfl
theorem Fx {w:World} {blk n b:Nat} {f:Array Value→Array Value} {os:Array Obj} (hb:b≠blk) (hlt:b<w.heap.size):
  (grow (mapBlock (Sort.ahead w n) blk f) os).heap[b]?=w.heap[b]?:=by
 show(w.heap.modify blk (onCells f) ++os)[b]?=_;rw[Array.getElem?_append_left (by simpa using hlt),Array.getElem?_modify,if_neg (Ne.symm hb)]
theorem Dk {w:World} {blk n:Nat} {f:Array Value→Array Value} {os:Array Obj}:w.heap.size≤(grow (mapBlock (Sort.ahead w n) blk f) os).heap.size:=by
 show w.heap.size≤(w.heap.modify blk (onCells f) ++os).size;rw[Array.size_append,Array.size_modify];omega
theorem wR {α:Type} [Inhabited α] (enc:α→Value) (d:Array α) (c:Array Value) (off:Nat):(putCells enc off d c).size=c.size:=by simp[putCells]
theorem wQ {α:Type} [Inhabited α] (enc:α→Value) (d:Array α) (c:Array Value) (h:d.size≤c.size):(putCells enc 0 d c).toList.take d.size=d.toList.map enc:=by
 apply List.ext_getElem?;intro j;rw[List.getElem?_take];split
 ·rename_i hj
  simp only[putCells,Array.getElem?_toList,List.getElem?_map,Array.getElem?_mapIdx];rw[Array.getElem?_eq_getElem (by omega),Array.getElem?_eq_getElem hj];simp[hj]
 ·rename_i hj
  rw[List.getElem?_eq_none (by simp;omega)]
structure Ac (L:Lnk):Prop where
 sort:∀(blk off cap:Nat) (ss:List Bytes) (w:World),Holds encStr w blk off ss.toArray→blk<w.heap.size→ss.length<4611686018427387904→
  Calls L.P (L.num 200) #[.slice (some ⟨blk,off,none⟩) ss.length cap] w fun e w'=>
   e=.returned (.tuple #[])∧∃n os,w'=grow (putRow encStr (Sort.ahead w n) blk off (ss.mergeSort fun x y=>decide (x≤y)).toArray) os
 none:∀(p:Option Addr) (cap:Nat) (w:World),Calls L.P (L.num 200) #[.slice p 0 cap] w fun e w'=>e=.returned (.tuple #[])∧w'=w
theorem Ac.par (M:Ac L):Ie L where
 Cm:=fun H=>u6 fun g w vs hs hr=>by
  obtain⟨v,rfl,h⟩:=EI hr;obtain⟨a,c,k,b,o,vs,rfl,_⟩:=lI h;exact⟨_,.tup [] [] .nil,(M.none a c w).mono fun e w' ⟨e1,e2⟩=>⟨e1,e2▸Below.refl _ _⟩⟩
 sort:=fun l n id t H hH hn hne hl g w vs hs hr=>by
  obtain⟨v,rfl,h⟩:=EI hr
  cases h with
  |vec _ _ _ _ _ c s hs' hsk hc hz=>
   obtain⟨s0,cur,e1,e0,e2,e3,e4,e5,e6,e7,e8,e9,e10⟩:=hs.obj id _ hH;rw[hs']at e1;cases e1;have hll:(aJ l).length=l.length:=by simp[aJ]
   rw[hsk,Nat.mul_one,hll]at e7 e8;rw[rV]at e8;have hcells:=EH e8
   have R6:Holds encStr w s.b 0 l.toArray:=fun j hj=>by
    have hj':j<l.length:=by simpa using hj
    have h3:cur.toList[j]?=some (.string ⟨l[j].toArray⟩):=by
     have:(cur.toList.take l.length)[j]?=some (.string ⟨l[j].toArray⟩):=by rw[hcells];simp[hj']
     rw[List.getElem?_take,if_pos hj']at this;exact this
    rw[Nat.zero_add];refine⟨?_,by simp[World.frozen?,e4]⟩;simp only[World.cell?,e4,Option.isSome_none,Bool.false_eq_true,if_false];rw[←Array.getElem?_toList,h3];simp[encStr,hj']
   have hcall:=M.sort s.b 0 c l w R6 (hs.bnd _ _ _ hs') (by omega);rw[hn];refine hcall.mono fun e w' ⟨he,m,os,hw⟩=>?_
   have hpl:(mR l).length=l.length:=(sG l).length_eq
   have hst:St L g w' (H.set id (.arr n (aJ (mR l)) t)):=by
    rw[hw];refine I4 hs hH hs' hsk e4 (J3 e4) (wR _ _ _ _) (fun y hy=>?_) (by simp[aJ,hpl]) (fun b hb hlt=>Fx hb hlt) Dk rfl rfl rfl ?_
    ·simp only[aJ,List.mem_map]at hy
     obtain⟨s,_,rfl⟩:=hy;rfl
    ·rw[rV,Nat.mul_one]
     have h5:=wQ encStr (mR l).toArray cur (by simp[hpl];omega);have h6:(mR l).toArray.size=(aJ (mR l)).length:=by simp[aJ]
     rw[h6]at h5;show aW L g ((putCells encStr 0 (mR l).toArray cur).toList.take _) _;rw[h5];exact sJ _
   exact⟨.ret (.tup []),H.set id (.arr l.length (aJ (mR l)) t),g,⟨rfl,rfl⟩,aA.le.refl g,hn▸hst,_,he,.tup [] [] .nil⟩
end Go.Ag
/- The library's sort of keyed types by a comparing function: what it does to a row. -/
namespace Go.Ag
open Go Go.Sort Go.Proofs
open Go.RowKit (Below)
variable {L : Lnk} {g : aA} {w : World} {H : Heap}
def KV :Type:={q:List Value×Bytes//q.1.length=4∧∀v∈q.1,v.oneCell'=true}
instance : Inhabited KV := ⟨⟨([.bool false, .bool false, .bool false, .bool false], []), rfl, fun v hv => by simp at hv; subst hv; rfl⟩⟩
def qU (x:KV):List Value:=x.1.1 ++[.string ⟨x.1.2.toArray⟩]
theorem Dw (x:KV):(qU x).length=5:=by simp[qU,x.2.1]
theorem SN (x:KV):∀v∈qU x,v.oneCell'=true:=fun v hv=>by
 rcases List.mem_append.1 hv with hv|hv
 ·exact x.2.2 v hv
 ·simp only[List.mem_singleton]at hv;subst hv;rfl
theorem Dq {α:Type} [Inhabited α] {enc:α→List Value} {k:Nat} (hk:∀x,(enc x).length=k):∀(l:List α) (j:Nat),j<l.length*k→(l.flatMap enc)[j]?=some ((enc (l[j/k]!))[j%k]!)
 |[],j,h=>by simp at h
 |x::l,j,h=>by
  have h0:0<k:=by
   rcases Nat.eq_zero_or_pos k with h'|h'
   ·subst h';simp at h
   ·exact h'
  rw[List.flatMap_cons];rcases Nat.lt_or_ge j k with hj|hj
  ·rw[List.getElem?_append_left (by rw[hk];exact hj),Nat.div_eq_of_lt hj,Nat.mod_eq_of_lt hj,List.getElem?_eq_getElem (by rw[hk];exact hj)]
   simp[hk,hj]
  ·rw[List.getElem?_append_right (by rw[hk];exact hj),hk]
   have h1:j-k<l.length*k:=by rw[List.length_cons,Nat.add_mul]at h;omega
   rw[Dq hk l (j-k) h1];have h2:j/k=(j-k)/k+1:=by rw[←Nat.sub_add_cancel hj,Nat.add_div_right _ h0];simp
   have h3:j%k=(j-k)%k:=by rw[Nat.mod_eq_sub_mod hj]
   rw[h2,h3];rfl
theorem Dr {α:Type} [Inhabited α] {enc:α→List Value} {k:Nat} (hk:∀x,(enc x).length=k) (d:Array α):(flatK enc k d).toList=d.toList.flatMap enc:=by
 have hl:(d.toList.flatMap enc).length=d.size*k:=by
  rw[List.length_flatMap,show d.toList.map (fun x=>(enc x).length)=d.toList.map fun _=>k from List.map_congr_left fun x _=>hk x,List.map_const',List.sum_replicate_nat,Array.length_toList]
 apply List.ext_getElem?;intro j;rcases Nat.lt_or_ge j (d.size*k)with hj|hj
 ·rw[Dq hk d.toList j (by simpa using hj)]
  rw[Array.getElem?_toList,Array.getElem?_eq_getElem (by simpa using hj)];have:=get_flatK enc k d j hj;rw[getElem!_pos _ j (by simpa using hj)]at this;rw[this];simp
  congr 2
  rw[getElem!_def];cases d[j/k]?<;>rfl
 ·rw[List.getElem?_eq_none (by simpa using hj),List.getElem?_eq_none (by rw[hl];exact hj)]
theorem ER {α β:Type} {f:α→β}:∀{l:List β} {zs:List α},(zs.map f).Perm l→∃zs',zs.Perm zs'∧zs'.map f=l
 |[],zs,h=>by
  have:zs=[]:=by simpa using h.eq_nil
  subst this;exact⟨[],.refl _,rfl⟩
 |y::l,zs,h=>by
  have hy:y∈zs.map f:=h.symm.subset List.mem_cons_self;obtain⟨z,hz,rfl⟩:=List.mem_map.1 hy;obtain⟨s,t,rfl⟩:=List.append_of_mem hz
  have h1:((s ++z::t).map f).Perm (f z::(s ++t).map f):=by
   simp only[List.map_append,List.map_cons];exact List.perm_middle
  have h2:((s ++t).map f).Perm l:=List.Perm.cons_inv (h1.symm.trans h);obtain⟨zs',e1,e2⟩:=ER h2;exact⟨z::zs',List.perm_middle.trans (e1.cons z),by rw[List.map_cons,e2]⟩
theorem Pw {us:List Value}:∀{xs:List (TA×Bytes)},aW L g us (flat (kvs xs))→∃zs:List (KV×(TA×Bytes)),zs.map (·.2)=xs∧us=(zs.map (·.1)).flatMap qU∧∀z∈zs,aW L g (qU z.1) (JF z.2)∧z.1.1.2=z.2.2:=fun{xs} h=>by
 induction xs generalizing us with
 |nil=>cases h;exact⟨[],rfl,rfl,fun z hz=>by cases hz⟩
 |cons p xs ih=>
  obtain⟨⟨k,nm,ns,l⟩,s⟩:=p;rw[show flat (kvs ((TA.mk k nm ns l,s)::xs))=.int .i64 k::.str nm::.lst (aJ ns) .none::.lst (TA.avs l) .none::.str s::flat (kvs xs)from rfl]at h
  cases h with|cons v0 _ _ _ h0 h=>
  cases h with|cons v1 _ _ _ h1 h=>
  cases h with|cons v2 _ _ _ h2 h=>
  cases h with|cons v3 _ _ _ h3 h=>
  cases h with|cons v4 _ vs _ h4 h=>
  obtain⟨zs,e1,e2,e3⟩:=ih h;have hs:=iP h4;subst hs;refine⟨(⟨([v0,v1,v2,v3],s),rfl,fun v hv=>?_⟩,(.mk k nm ns l,s))::zs,by rw[List.map_cons,e1],?_,fun z hz=>?_⟩
  ·simp only[List.mem_cons,List.not_mem_nil,or_false]at hv
   rcases hv with rfl|rfl|rfl|rfl
   ·exact uK h0 rfl
   ·exact uK h1 rfl
   ·exact uK h2 rfl
   ·exact uK h3 rfl
  ·rw[List.map_cons,List.flatMap_cons,←e2];rfl
  ·rcases List.mem_cons.1 hz with rfl|hz
   ·exact⟨.cons _ _ _ _ h0 (.cons _ _ _ _ h1 (.cons _ _ _ _ h2 (.cons _ _ _ _ h3 (.cons _ _ _ _ h4 .nil)))),rfl⟩
   ·exact e3 z hz
theorem JC :∀{zs:List (KV×(TA×Bytes))},(∀z∈zs,aW L g (qU z.1) (JF z.2)∧z.1.1.2=z.2.2)→aW L g ((zs.map (·.1)).flatMap qU) (flat (kvs (zs.map (·.2))))
 |[],_=>.nil
 |z::zs,h=>by
  rw[List.map_cons,List.map_cons,List.flatMap_cons];exact((h z List.mem_cons_self).1).append (JC fun y hy=>h y (List.mem_cons_of_mem _ hy))
structure rY (L:Lnk)where
 cf:Bytes→Bytes→Int
 lt:∀s t:Bytes,cf s t<0↔s<t
 sort:∀(blk off cap:Nat) (d:Array KV) (w:World),HoldsK qU 5 w blk off d→blk<w.heap.size→d.size<4611686018427387904→
  Calls L.P (L.num 252) #[.slice (some ⟨blk,off,none⟩) d.size cap,.func (.func (L.num 253)) #[] #[]] w fun e w'=>
   e=.returned (.tuple #[])∧∃d' n os,PermIn 0 d.size d d'∧SortedIn (fun x y=>decide (cf x.1.2 y.1.2<0)) 0 d.size d'∧w'=sortWorldK qU 5 w blk off n d' os
 none:∀(p:Option Addr) (cap:Nat) (fv:Value) (w:World),Calls L.P (L.num 252) #[.slice p 0 cap,fv] w fun e w'=>e=.returned (.tuple #[])∧w'=w
theorem rY.Cm (M:rY L) (H:Heap):aC L 252 [.lst [] .nil,.fn (.func 253) [] []] H fun r H'=>r=.ret (.tup [])∧H'=H:=u6 fun g w vs hs hr=>by
 obtain⟨v,u,rfl,h,_⟩:=I6 hr;obtain⟨a,c,k,b,o,vs,rfl,_⟩:=lI h;exact⟨_,.tup [] [] .nil,(M.none a c u w).mono fun e w' ⟨e1,e2⟩=>⟨e1,e2▸Below.refl _ _⟩⟩
theorem rY.O4 (M:rY L) (xs:List (TA×Bytes)) (n id t:Nat) (H:Heap) (hH:H[id]?=some (.arr n (kvs xs) t)) (hn:n=xs.length) (hne:xs≠[]) (hl:n≤2^40):
  aC L 252 [.vec id n 5 0 n,.fn (.func 253) [] []] H fun r H'=>r=.ret (.tup [])∧∃ys:List (TA×Bytes),ys.Perm xs∧ys.Pairwise (fun a b=>a.2≤b.2)∧H'=H.set id (.arr n (kvs ys) t):=fun g w vs hs hr=>by
 obtain⟨v,u,rfl,h,hu⟩:=I6 hr
 cases hu with|fn f _ fi ca _ _ hf h1 h2=>
 cases h1;cases h2
 cases f with
 |func f=>
  obtain⟨rfl,_⟩:=hf
  cases h with
  |vec _ _ _ _ _ c s hs' hsk hc hz=>
   obtain⟨s0,cur,e1,e0,e2,e3,e4,e5,e6,e7,e8,e9,e10⟩:=hs.obj id _ hH;rw[hs']at e1;cases e1;rw[hsk,jF]at e7 e8;obtain⟨zs,f1,f2,f3⟩:=Pw e8;have hzl:zs.length=n:=by rw[hn,←f1];simp
   have hds:(zs.map (·.1)).toArray.size=n:=by simp[hzl]
   have hfl:(flatK qU 5 (zs.map (·.1)).toArray).toList=cur.toList.take (xs.length*5):=by rw[Dr Dw,f2]
   have hfs:(flatK qU 5 (zs.map (·.1)).toArray).size=xs.length*5:=by simp[hzl,hn]
   have R6:HoldsK qU 5 w s.b 0 (zs.map (·.1)).toArray:=fun j hj=>by
    rw[hfs]at hj
    have h3:cur.toList[j]?=some ((flatK qU 5 (zs.map (·.1)).toArray)[j]!):=by
     have h4:(flatK qU 5 (zs.map (·.1)).toArray).toList[j]?=cur.toList[j]?:=by rw[hfl,List.getElem?_take,if_pos hj]
     rw[←h4,Array.getElem?_toList,Array.getElem?_eq_getElem (by rw[hfs];exact hj),getElem!_pos _ j (by rw[hfs];exact hj)]
    rw[Nat.zero_add];refine⟨?_,by simp[World.frozen?,e4]⟩;simp only[World.cell?,e4,Option.isSome_none,Bool.false_eq_true,if_false];rw[←Array.getElem?_toList,h3];rfl
   have hcall:=M.sort s.b 0 c _ w R6 (hs.bnd _ _ _ hs') (by rw[hds];omega);rw[hds]at hcall;refine hcall.mono fun e w' ⟨he,d',m,os,hp,hso,hw⟩=>?_
   obtain⟨p1,_,p3⟩:=hp;rw[hds]at p1
   have hperm:(zs.map (·.1)).Perm d'.toList:=by
    have e1:(d'.extract 0 n)=d':=by rw[←p1,Array.extract_size]
    have e2:((zs.map (·.1)).toArray.extract 0 n)=(zs.map (·.1)).toArray:=by
     conv=>lhs;rw[←hds]
     rw[Array.extract_size]
    rw[e1,e2]at p3;exact p3.symm
   obtain⟨zs',g1,g2⟩:=ER hperm;have f3':∀z∈zs',aW L g (qU z.1) (JF z.2)∧z.1.1.2=z.2.2:=fun z hz=>f3 z (g1.symm.subset hz)
   have hzl':zs'.length=n:=by rw[←g1.length_eq,hzl]
   have hys:(zs'.map (·.2)).Perm xs:=by rw[←f1];exact(g1.symm.map _)
   have hd':d'=(zs'.map (·.1)).toArray:=by rw[g2]
   refine⟨.ret (.tup []),H.set id (.arr n (kvs (zs'.map (·.2))) t),g,⟨rfl,_,hys,?_,rfl⟩,aA.le.refl g,?_,_,he,.tup [] [] .nil⟩
   ·rw[List.pairwise_iff_getElem]
    intro i j hi hj hij;have hi':i<zs'.length:=by simpa using hi
    have hj':j<zs'.length:=by simpa using hj
    have h5:=hso i j (Nat.zero_le _) hij (by omega);rw[hd']at h5;have q1:(zs'.map (·.1)).toArray[i]! =zs'[i].1:=by rw[getElem!_pos _ i (by simpa using hi')];simp
    have q2:(zs'.map (·.1)).toArray[j]! =zs'[j].1:=by rw[getElem!_pos _ j (by simpa using hj')];simp
    rw[q1,q2]at h5;dsimp only at h5;rw[(f3' _ (List.getElem_mem hi')).2,(f3' _ (List.getElem_mem hj')).2]at h5;have h6:=of_decide_eq_false h5;have h7:¬zs'[j].2.2<zs'[i].2.2:=fun hh=>h6 ((M.lt _ _).2 hh)
    simpa using List.not_lt.1 h7
   ·rw[hw]
    have h7:sortWorldK qU 5 w s.b 0 m d' os=grow (mapBlock (Sort.ahead w m) s.b (putCells (_root_.id:Value→Value) 0 (flatK qU 5 d'))) os:=rfl;rw[h7];have hfs':(flatK qU 5 d').size=n*5:=by simp[p1]
    refine I4 hs hH hs' hsk e4 (J3 e4) (wR _ _ _ _) (fun y hy=>uS _ y hy) (by rw[jF,jF,List.length_map,hzl',hn]) (fun b hb hlt=>Fx hb hlt) Dk rfl rfl rfl ?_;rw[jF,List.length_map,hzl'];have h8:=wQ (_root_.id:Value→Value) (flatK qU 5 d') cur (by rw[hfs'];omega);rw[hfs',List.map_id,Dr Dw]at h8;rw[h8,hd'];exact JC f3'
 |_=>exact absurd hf (by simp[KU])
end Go.Ag
/- The library's ParseInt of a text of digits: what the document's Number is. -/
namespace Go.Ag
open Go
open Go.RowKit (Below)
variable {L : Lnk}
def oU (n:Nat) (c:UInt8):Nat:=n*10+(c.toNat-48)
theorem Rq {n:Nat} {c:UInt8} (h1:48≤c.toNat) (h2:c.toNat≤57) (hn:n<10^17):vN (n:Int) c=((oU n c:Nat):Int):=by
 unfold vN oU;have e1:IntKind.u8.wrap ((c.toNat:Int)-48)=(c.toNat:Int)-48:=IntWalk.u8_in _ (by omega);rw[e1,IntWalk.i64_in (10*(n:Int)) (by omega),IntWalk.i64_in ((c.toNat:Int)-48) (by omega),IntWalk.i64_in _ (by omega)];omega
theorem Ji :∀(l:Bytes) (acc:Nat),(∀c∈l,48≤c.toNat∧c.toNat≤57)→l.length≤18→acc<10^(18-l.length)→
  Lib.parseUintM (2^64-1) acc l=.ok (l.foldl oU acc)∧l.foldl vN (acc:Int)=((l.foldl oU acc:Nat):Int)∧l.foldl oU acc<10^18
 |[],acc,h,hl,ha=>⟨rfl,rfl,ha⟩
 |c::l,acc,h,hl,ha=>by
  obtain⟨h1,h2⟩:=h c (by simp);rw[List.length_cons]at hl ha;have e1:18-l.length=(18-(l.length+1))+1:=by omega
  have hp:10^(18-l.length)=10^(18-(l.length+1))*10:=by rw[e1,Nat.pow_succ]
  have hle:10^(18-(l.length+1))≤10^17:=Nat.pow_le_pow_right (by decide) (by omega);have ha2:oU acc c<10^(18-l.length):=by unfold oU;omega
  obtain⟨k1,k2,k3⟩:=Ji l (oU acc c) (fun d hd=>h d (by simp[hd])) (by omega) ha2;refine⟨?_,?_,k3⟩
  ·rw[Lib.parseUintM,if_pos ⟨h1,h2⟩,if_neg (by omega),if_neg (by omega)]
   exact k1
  ·rw[List.foldl_cons,Rq h1 h2 (by omega)]
   exact k2
theorem Pf {s:Bytes} (h:yF s):Lib.parseIntB 64 s=.ok (sV s):=by
 obtain⟨h0,h1,h2⟩:=h;obtain⟨k1,k2,k3⟩:=Ji s 0 h2 h1 (Nat.pow_pos (by decide))
 cases s with
 |nil=>exact absurd rfl h0
 |cons c r=>
  obtain⟨c1,c2⟩:=h2 c (by simp);unfold Lib.parseIntB;simp only;rw[if_neg (by omega),show Lib.parseUintB 64 (c::r)=.ok ((c::r).foldl oU 0)from by unfold Lib.parseUintB;rw[if_neg (by simp)];exact k1];simp only;rw[if_neg (by omega),if_neg (by omega),if_neg (by omega)]
  congr 1
  exact k2.symm
structure Ig (L:Lnk)where
 t:TypeId
 parse:∀(s:ByteArray) (v:Int) (w:World),s.size≤9223372036854775806→Lib.parseIntB 64 s.data.toList=.ok v→
  Calls L.P (L.num 322) #[.string s,.int .i64 10,.int .i64 64] w fun e w'=>e=.returned (.tuple #[.int .i64 v,.nilIface])∧(w'=w∨∃z,w'=Lib.bytesWorld w t z)
theorem Ig.lib (M:Ig L):UK L where
 num:=fun s hs H=>Qd fun g w vs hst hr=>by
  cases hr with
  |cons v _ vs' _ h0 hr=>
   cases hr with
   |cons v1 _ vs1 _ h1 hr=>
    cases hr with
    |cons v2 _ vs2 _ h2 hr=>
     cases hr;cases h0;cases h1;cases h2;have hl:=hs.2.1;refine(M.parse ⟨s.toArray⟩ (sV s) w (by show s.toArray.size≤_;rw[List.size_toArray];omega) (by show Lib.parseIntB 64 s.toArray.toList=_;rw[List.toList_toArray];exact Pf hs)).mono fun e w' ⟨e1,e2⟩=>⟨⟨_,e1,.tup [_,_] _ (.cons _ _ _ _ (.int _ _) (.cons _ _ _ _ .eP .nil))⟩,?_⟩
     rcases e2 with rfl|⟨z,rfl⟩
     ·exact Below.refl _ _
     ·exact Lib.bytesWorld_below _ _ _
end Go.Ag
/- Package parts: Fields; the library's IndexFunc and DeleteFunc of names, walked. -/
namespace Go.Ag
open Go
variable {T : Tab} {L : Lnk}
theorem Cc (l:List Bytes):∀x∈aJ l,x.cells.length=1:=fun x hx=>by
 simp only[aJ,List.mem_map]at hx;obtain⟨s,_,rfl⟩:=hx;rfl
theorem pQ (n:Nat) (l:List Bytes):∀x∈aJ l,Low n x:=fun x hx=>by
 simp only[aJ,List.mem_map]at hx;obtain⟨s,_,rfl⟩:=hx;exact .str _
theorem Ez (l:List Bytes):flat (aJ l)=aJ l:=by
 induction l with
 |nil=>rfl
 |cons s l ih=>show [au.str s] ++flat (aJ l)=_;rw[ih];rfl
theorem NH {H:Heap} {id n t i:Nat} {l:List Bytes} (h:H[id]?=some (.arr n (aJ l) t)) (hi:i<l.length):loadAt H none (.ji id n (i*1))=some (.str l[i]):=by
 simp only[loadAt,fM,h];rw[Ez,Nat.mul_one,if_pos ⟨trivial,by rw[cK];omega⟩,List.drop_eq_getElem_cons (by rw[cK];exact hi)];simp[aJ]
theorem QV {H:Heap} {id n t i:Nat} {l:List Bytes} (s:Bytes) (h:H[id]?=some (.arr n (aJ l) t)) (hi:i<l.length):storeAt H 1 (.ji id n (i*1)) (.str s)=some (H.set id (.arr n (aJ (l.take i ++[s] ++l.drop (i+1))) t)):=by
 simp only[storeAt,h];rw[if_pos ⟨trivial,rfl,by rw[Nat.mul_one,Nat.div_one,Nat.mul_one],by rw[Nat.mul_one,Nat.div_one,cK];exact hi,by rw[List.all_eq_true];exact fun y hy=>by simpa using Cc l y hy⟩,Nat.mul_one,Nat.div_one];simp[aJ,List.map_take,List.map_drop]
def G9 (p:Bytes→Bool):List Bytes→Nat→Int
 |[],_=> -1
 |x::l,j=>if p x then(j:Int)else G9 p l (j+1)
theorem Fq {p:Bytes→Bool}:∀(l:List Bytes) (j:Nat),(G9 p l j= -1∧∀x∈l,p x=false)∨∃i,G9 p l j=((j+i:Nat):Int)∧∃h:i<l.length,p l[i]=true∧∀x∈l.take i,p x=false
 |[],j=>.inl ⟨rfl,by simp⟩
 |x::l,j=>by
  rw[G9];cases hp:p x
  ·rw[if_neg (by simp)]
   rcases Fq l (j+1)with⟨h1,h2⟩|⟨i,h1,h2,h3,h4⟩
   ·exact .inl ⟨h1,fun y hy=>by
     rcases List.mem_cons.1 hy with rfl|hy
     ·exact hp
     ·exact h2 y hy⟩
   ·refine .inr ⟨i+1,by rw[h1];congr 1;omega,by simpa using h2,by simpa using h3,fun y hy=>?_⟩
    rw[List.take_succ_cons]at hy;rcases List.mem_cons.1 hy with rfl|hy
    ·exact hp
    ·exact h4 y hy
  ·rw[if_pos rfl]
   exact .inr ⟨0,by rw[Nat.add_zero],by simp,by simpa using hp,by simp⟩
section
variable {g : Nat} {o0 o1 o2 o3 o4 : aS} {p : Bytes → Bool}
def vB (o0 o1 o2 o3 o4:aS):Heap:=[o0,o1,o2,o3,o4]
structure Ea (T:Tab) (g:Nat) (o0 o1 o2 o3 o4:aS) (p:Bytes→Bool):Prop where
 low:∀o∈vB o0 o1 o2 o3 o4,bF 5 o
 call:∀nm,eu T.L g [.str nm,.ptr 3 0,.ptr 4 0] (vB o0 o1 o2 o3 o4) (.bool (p nm)) (vB o0 o1 o2 o3 o4)
theorem Ea.Yd (D:Ea T g o0 o1 o2 o3 o4 p) (o:aS) (ho:bF 6 o):fO 6 [o0,o1,o2,o3,o4,o]:=
 have h:∀o∈vB o0 o1 o2 o3 o4,bF 6 o:=fun o hm=>aI (by decide) (D.low o hm)
 ⟨h o0 (by simp[vB]),h o1 (by simp[vB]),h o2 (by simp[vB]),h o3 (by simp[vB]),h o4 (by simp[vB]),ho,trivial⟩
theorem Ea.ask (D:Ea T g o0 o1 o2 o3 o4 p) (nm:Bytes) (o:aS) {K KP:au→Heap→Prop} (hk:K (.bool (p nm)) [o0,o1,o2,o3,o4,o]):aC T.L g [.str nm,.ptr 3 0,.ptr 4 0] [o0,o1,o2,o3,o4,o] (dJ K KP):=
 (D.call nm).to rfl (gD.at ⟨.str _,.ptr _ _ (show 3<5 by decide),.ptr _ _ (show 4<5 by decide),trivial⟩) D.low (.bool _) D.low [o] rfl hk
theorem JL (Dj:T.has 243 DX) (D:Ea T g o0 o1 o2 o3 o4 p) (xs:List Bytes) (n t:Nat) (hn:n=xs.length) (hl:n≤2^40):
  aC T.L 243 [.vec 5 n 1 0 n,.fn (.func g) [] [.ptr 3 0,.ptr 4 0]] [o0,o1,o2,o3,o4,.arr n (aJ xs) t] fun r H'=>r=.ret (.int .i64 (G9 p xs 0))∧H'=[o0,o1,o2,o3,o4,.arr n (aJ xs) t]:=by
 refine aG Dj (by simp[DX]) ?_;conv=>whnf
 intro I hI hG;have hlo:bF 6 (.arr n (aJ xs) t):=pQ 6 xs;have hL:=D.Yd _ hlo;obtain⟨fin,hfin⟩:∃fin,G9 p xs 0=fin:=⟨_,rfl⟩;rw[hfin]at hI
 have key:∀(d j:Nat) (e:Env),xs.length-j=d→j≤xs.length→G9 p (xs.drop j) j=fin→
   I (fZ e [(0,.vec 5 n 1 0 n),(1,.fn (.func g) [] [.ptr 3 0,.ptr 4 0]),(7,.int .i64 n),(8,.int .i64 j)]) [o0,o1,o2,o3,o4,.arr n (aJ xs) t]:=by
  intro d
  induction d with
  |zero=>
   intro j e hd hj hf;have hjl:j=xs.length:=by omega
   rw[hjl,List.drop_length,G9]at hf;subst hf;apply hI;conv=>whnf
   rw[bQ (by omega)];conv=>whnf
   exact⟨rfl,rfl⟩
  |succ d ihd=>
   intro j e hd hj hf;have hjl:j<xs.length:=by omega
   rw[List.drop_eq_getElem_cons hjl,G9]at hf;have hnext:=fun e=>ihd (j+1) e (by omega) hjl
   have hload:=fun(H:Heap) (h:H[5]?=some (.arr n (aJ xs) t))=>NH h hjl
   have Sd:=fun(K KP:au→Heap→Prop) (hk:K (.bool (p xs[j])) [o0,o1,o2,o3,o4,.arr n (aJ xs) t])=>D.ask xs[j] (.arr n (aJ xs) t) (K:=K) (KP:=KP) hk
   generalize xs[j]=v at hf hload Sd;apply hI;conv=>whnf
   rw[cO (by omega)];conv=>whnf
   refine⟨⟨Int.natCast_nonneg _,by omega,rfl⟩,?_⟩;conv=>whnf
   rw[show(0+((j:Nat):Int).toNat)*1=j*1 from by simp];refine lW (hload _ rfl) ?_;conv=>whnf
   refine Sd _ _ ?_;cases hp:p v
   ·rw[if_neg (by rw[hp];simp)]at hf
    conv=>whnf
    exact hG.keep [(0,.vec 5 n 1 0 n),(1,.fn (.func g) [] [.ptr 3 0,.ptr 4 0]),(7,.int .i64 n),(8,.int .i64 (j+1:Nat))] [o0,o1,o2,o3,o4,.arr n (aJ xs) t] (Nat.le_refl 6) rfl ⟨rfl,rfl,rfl,add1 (by omega),trivial⟩
     ⟨.vec _ _ _ _ _ (by decide:5<6),.fn _ _ _ fP (gD.at ⟨.ptr _ _ (show _<6 by decide),.ptr _ _ (show _<6 by decide),trivial⟩),.int _ _,.int _ _,trivial⟩ hL (hnext _ hf)
   ·rw[if_pos hp]at hf
    subst hf;conv=>whnf
    exact⟨rfl,rfl⟩
 exact inv_of [(0,.vec 5 n 1 0 n),(1,.fn (.func g) [] [.ptr 3 0,.ptr 4 0]),(7,.int .i64 n),(8,.int .i64 (0:Nat))] ⟨rfl,rfl,rfl,rfl,trivial⟩ (key xs.length 0 _ rfl (Nat.zero_le _) hfin)
structure wZ (p:Bytes→Bool) (xs A:List Bytes) (j m:Nat):Prop where
 len:A.length=xs.length
 front:A.take m=(xs.take j).filter fun x=> !p x
 L8:m=((xs.take j).filter fun x=> !p x).length
 lt:m<j
 back:A.drop j=xs.drop j
theorem wZ.at {xs A:List Bytes} {j m:Nat} (h:wZ p xs A j m) (hj:j<xs.length):∃h':j<A.length,A[j]=xs[j]:=by
 refine⟨by rw[h.len];exact hj,?_⟩;have e1:(A.drop j)[0]?=(xs.drop j)[0]?:=by rw[h.back]
 rw[List.getElem?_drop,List.getElem?_drop,Nat.add_zero,List.getElem?_eq_getElem hj,List.getElem?_eq_getElem (by rw[h.len];exact hj)]at e1;exact Option.some.inj e1
theorem wZ.skip {xs A:List Bytes} {j m:Nat} (h:wZ p xs A j m) (hj:j<xs.length) (hp:p xs[j]=true):wZ p xs A (j+1) m:=by
 have e:(xs.take (j+1)).filter (fun x=> !p x)=(xs.take j).filter fun x=> !p x:=by
  rw[List.take_succ_eq_append_getElem hj,List.filter_append];simp[hp]
 refine⟨h.len,by rw[e];exact h.front,by rw[e];exact h.L8,by have:=h.lt;omega,?_⟩;rw[←List.drop_drop,←List.drop_drop,h.back]
theorem wZ.take {xs A:List Bytes} {j m:Nat} (h:wZ p xs A j m) (hj:j<xs.length) (hp:p xs[j]=false):wZ p xs (A.take m ++[xs[j]] ++A.drop (m+1)) (j+1) (m+1):=by
 have hlt:=h.lt;have hlen:=h.len;have hml:(A.take m).length=m:=by rw[List.length_take];omega
 have e:(xs.take (j+1)).filter (fun x=> !p x)=((xs.take j).filter fun x=> !p x) ++[xs[j]]:=by
  rw[List.take_succ_eq_append_getElem hj,List.filter_append];simp[hp]
 have e0:(A.take m ++[xs[j]]).length=m+1:=by simp[hml]
 refine⟨by simp;omega,?_,by rw[e,List.length_append,←h.L8];rfl,by omega,?_⟩
 ·rw[List.take_append_of_le_length (by omega),List.take_of_length_le (by omega),e,h.front]
 ·rw[List.drop_append,List.drop_of_length_le (by omega),List.nil_append,e0,List.drop_drop,show m+1+(j+1-(m+1))=j+1 from by omega,←List.drop_drop,←List.drop_drop,h.back]
theorem YD {o0 o1 o2 o3 o4:aS} {xs A:List Bytes} {n t m r:Nat} (hr:m+(r+1)=n) (hA:A.length=n) (hf:A.take m=xs):
  DR 1 (.str []) [o0,o1,o2,o3,o4,.arr n (aJ A) t] (.vec 5 n 1 (0+m) (r+1))=some [o0,o1,o2,o3,o4,.arr n (aJ (xs ++List.replicate (r+1) [])) t]:=by
 rw[Nat.zero_add,DR];simp only[List.getElem?_cons_zero,List.getElem?_cons_succ];rw[if_pos ⟨trivial,trivial,by rw[cK];omega,by rw[List.all_eq_true];exact fun y hy=>by simpa using Cc A y hy⟩];have e1:(aJ A).take m=aJ xs:=by rw[←hf];simp[aJ,List.map_take]
 have e2:(aJ A).drop (m+(r+1))=[]:=List.drop_of_length_le (by rw[cK];omega);rw[e1,e2,List.append_nil];simp[aJ]
theorem Hz (Dj:T.has 243 DX) (Hl:T.has 207 FU) (D:Ea T g o0 o1 o2 o3 o4 p) (xs:List Bytes) (n t:Nat) (hn:n=xs.length) (hl:n≤2^40):
  aC T.L 207 [.vec 5 n 1 0 n,.fn (.func g) [] [.ptr 3 0,.ptr 4 0]] [o0,o1,o2,o3,o4,.arr n (aJ xs) t] fun r H'=>∃rest,r=.ret (.vec 5 n 1 0 (xs.filter fun x=> !p x).length)∧(xs.filter fun x=> !p x).length+rest.length=n∧H'=[o0,o1,o2,o3,o4,.arr n (aJ ((xs.filter fun x=> !p x) ++rest)) t]:=by
 have hix:=JL Dj D xs n t hn hl;refine aG Hl (by simp[FU]) ?_;conv=>whnf
 refine(hix.mono (Q':=dJ _ _) fun r H' ⟨e1,e2⟩=>?_);subst e1 e2;rcases Fq (p:=p) xs 0 with⟨h1,h2⟩|⟨i,h1,hi,h3,h4⟩
 ·have hf:xs.filter (fun x=> !p x)=xs:=List.filter_eq_self.2 fun x hx=>by rw[h2 x hx];rfl
  rw[h1];conv=>whnf
  refine⟨[],by rw[hf,←hn];rfl,by rw[hf,←hn];rfl,by rw[hf,List.append_nil]⟩
 ·rw[h1,Nat.zero_add]
  have hst:wZ p xs xs (i+1) i:=by
   have hfi:(xs.take (i+1)).filter (fun x=> !p x)=xs.take i:=by
    rw[List.take_succ_eq_append_getElem hi,List.filter_append,List.filter_eq_self.2 fun x hx=>by rw[h4 x hx];rfl];simp[h3]
   exact⟨rfl,hfi.symm,by rw[hfi,List.length_take];omega,by omega,rfl⟩
  clear h1 h3 h4 hix;conv=>whnf
  rw[show(((i:Nat):Int)== -1)=false from by simp];conv=>whnf
  rw[add1 (by omega)];intro I hI hG;obtain⟨ys,hys⟩:∃ys,xs.filter (fun x=> !p x)=ys:=⟨_,rfl⟩;rw[hys]at hI
  have key:∀(d j m:Nat) (A:List Bytes) (e:Env),n-j=d→j≤n→wZ p xs A j m→
    I (fZ e [(0,.vec 5 n 1 0 n),(1,.fn (.func g) [] [.ptr 3 0,.ptr 4 0]),(5,.int .i64 m),(6,.int .i64 j)]) [o0,o1,o2,o3,o4,.arr n (aJ A) t]:=by
   intro d
   induction d with
   |zero=>
    intro j m A e hd hj hst;have hlt:=hst.lt;have hjn:j=n:=by omega
    have hfr:=hst.front;have hm:=hst.L8;rw[hjn,hn,List.take_length,hys]at hfr hm;have hr:m+(n-m-1+1)=n:=by omega
    have hclr:=YD (o0:=o0) (o1:=o1) (o2:=o2) (o3:=o3) (o4:=o4) (t:=t) hr (by rw[hst.len,hn]) hfr;have hnm:n-m-1+1=n-m:=by omega
    rw[hnm]at hclr;apply hI;conv=>whnf
    rw[bQ (by omega)];conv=>whnf
    refine⟨⟨by omega,by omega,by omega,rfl⟩,?_⟩;conv=>whnf
    rw[Int.toNat_natCast,hclr];conv=>whnf
    refine⟨⟨by omega,by omega,by omega,rfl⟩,?_⟩;conv=>whnf
    refine⟨List.replicate (n-m) [],by rw[←hm];rfl,by rw[List.length_replicate,←hm];omega,rfl⟩
   |succ d ihd=>
    intro j m A e hd hj hst;have hjx:j<xs.length:=by omega
    have hlt:=hst.lt;have hAl:=hst.len;obtain⟨hjA,hat⟩:=hst.at hjx;have hL:=D.Yd (.arr n (aJ A) t) (pQ 6 A);have hload:=fun(H:Heap) (h:H[5]?=some (.arr n (aJ A) t))=>NH h hjA
    rw[hat]at hload;have Sd:=fun(K KP:au→Heap→Prop) (hk:K (.bool (p xs[j])) [o0,o1,o2,o3,o4,.arr n (aJ A) t])=>D.ask xs[j] (.arr n (aJ A) t) (K:=K) (KP:=KP) hk
    have AJ:=hst.skip hjx;have htake:=hst.take hjx;generalize xs[j]=v at hload Sd AJ htake;apply hI;conv=>whnf
    rw[cO (by omega)];conv=>whnf
    refine⟨⟨Int.natCast_nonneg _,by omega,rfl⟩,?_⟩;conv=>whnf
    rw[show(0+((j:Nat):Int).toNat)*1=j*1 from by simp];refine lW (hload _ rfl) ?_;conv=>whnf
    refine Sd _ _ ?_;have hj1:j+1<9223372036854775808:=by omega
    have hm1:m+1<9223372036854775808:=by omega
    cases hp:p v
    ·have hst':=htake hp
     have hL':=D.Yd (.arr n (aJ (A.take m ++[v] ++A.drop (m+1))) t) (pQ 6 _);have hsto:=QV (H:=[o0,o1,o2,o3,o4,.arr n (aJ A) t]) (id:=5) (n:=n) (t:=t) (i:=m) v rfl (by rw[hAl];omega);generalize A.take m ++[v] ++A.drop (m+1)=A' at hst' hsto hL';conv=>whnf
     refine⟨⟨Int.natCast_nonneg _,by omega,rfl⟩,?_⟩;conv=>whnf
     rw[show(0+((m:Nat):Int).toNat)*1=m*1 from by simp,hsto];conv=>whnf
     exact hG.keep [(0,.vec 5 n 1 0 n),(1,.fn (.func g) [] [.ptr 3 0,.ptr 4 0]),(5,.int .i64 (m+1:Nat)),(6,.int .i64 (j+1:Nat))] [o0,o1,o2,o3,o4,.arr n (aJ A') t] (Nat.le_refl 6) rfl ⟨rfl,rfl,add1 hm1,add1 hj1,trivial⟩
      ⟨.vec _ _ _ _ _ (by decide:5<6),.fn _ _ _ fP (gD.at ⟨.ptr _ _ (show _<6 by decide),.ptr _ _ (show _<6 by decide),trivial⟩),.int _ _,.int _ _,trivial⟩ hL' (ihd (j+1) (m+1) A' _ (by omega) (by omega) hst')
    ·have hst':=AJ hp
     conv=>whnf
     exact hG.keep [(0,.vec 5 n 1 0 n),(1,.fn (.func g) [] [.ptr 3 0,.ptr 4 0]),(5,.int .i64 m),(6,.int .i64 (j+1:Nat))] [o0,o1,o2,o3,o4,.arr n (aJ A) t] (Nat.le_refl 6) rfl ⟨rfl,rfl,rfl,add1 hj1,trivial⟩
      ⟨.vec _ _ _ _ _ (by decide:5<6),.fn _ _ _ fP (gD.at ⟨.ptr _ _ (show _<6 by decide),.ptr _ _ (show _<6 by decide),trivial⟩),.int _ _,.int _ _,trivial⟩ hL (ihd (j+1) m A _ (by omega) (by omega) hst')
  exact inv_of [(0,.vec 5 n 1 0 n),(1,.fn (.func g) [] [.ptr 3 0,.ptr 4 0]),(5,.int .i64 i),(6,.int .i64 (i+1:Nat))] ⟨rfl,rfl,rfl,rfl,trivial⟩ (key _ (i+1) i xs _ rfl (by omega) hst)
end
end Go.Ag
/- Package parts: Fields. -/
namespace Go.Ag
open Go
variable {T : Tab} {L : Lnk}
theorem St.Hq {g:aA} {w:World} {H:Heap} (h:St L g w H) {id v t m:Nat} {xs:List au} (hid:H[id]?=some (.arr v xs t)) (k:Nat) (hm:m≤xs.length):
  ∃g',g.le g'∧St L g' w (H.set id .gone)∧∀u,Rep L g' u (.vec id v k 0 m)→Rep L g' u (.lst (xs.take m) .none):=by
 obtain⟨s,vs,e1,e0,e2,e3,e4,e5,e6,e7,e8,e9,e10⟩:=h.obj id _ hid
 have e8:aW L g (vs.toList.take (m*s.k)) (flat (xs.take m)):=by
  have h1:=e8.take (m*s.k);rw[vT m e6,List.take_take,Nat.min_eq_left (Nat.mul_le_mul_right _ hm)]at h1;exact h1
 have hf:∀o,0≤o→o<0+(vs.toList.take (m*s.k)).length→g.fz s.b o=none:=fun o _ _=>e9 o
 have hle:=aA.mH (g:=g) e10.2 hf
 have hlt:id<H.length:=by
  rcases Nat.lt_or_ge id H.length with h'|h'
  ·exact h'
  ·rw[List.getElem?_eq_none h']at hid;cases hid
 have hw:St L g w (H.set id .gone):=h.weak (by simp) fun i o o' ho ho'=>by
  rw[List.getElem?_set]at ho';split at ho'
  ·rename_i he
   subst he;cases ho';cases o<;>exact trivial
  ·rw[ho]at ho';cases ho';exact bR.refl o
 have hcell:∀j v,(vs.toList.take (m*s.k))[j]?=some v→w.cell? ⟨s.b,0+j,none⟩=some v:=fun j v hv=>by
  rw[List.getElem?_take]at hv;split at hv
  ·simp only[World.cell?,e4,Nat.zero_add]
   simpa using hv
  ·cases hv
 refine⟨g.iJ s.b 0 (vs.toList.take (m*s.k)),hle,hw.nC e10.2 hf hcell (fun i o s' ho ha hs hb=>?_),fun u hu=>?_⟩
 ·rw[List.getElem?_set]at ho
  split at ho
  ·rename_i he
   subst he;cases ho;cases ha
  ·rename_i hne
   exact hne (h.inj id i _ o s s' hid ho rfl ha e1 hs hb.symm)
 ·cases hu with
  |vec _ _ _ _ _ c s' h1 hk hc hz=>
   have:s'=s:=by
    have h2:=hle.ob _ _ _ e1;rw[h2]at h1;exact(Option.some.inj h1).symm
   subst this;have hl:(xs.take m).length=m:=by rw[List.length_take];omega
   have:=Rep.lst (L:=L) (g:=g.iJ s'.b 0 (vs.toList.take (m*s'.k))) (some ⟨s'.b,0*k,none⟩) c k s'.b 0 (xs.take m) (vs.toList.take (m*s'.k)) .none (fun _=>by rw[Nat.zero_mul]) (fun j v hv=>aA.nU _ _ _ _ j v hv) (fun x hx=>by rw[e6 x (List.mem_of_mem_take hx),hk]) (by rw[hl];exact hc) trivial (e8.mono hle);rw[hl]at this;exact this
theorem aC.Hq {f : Nat} {args : List au} {H : Heap} {Q : fF → Heap → Prop}
  (h : aC L f args H fun r H' => Q r H' ∨ ∃ id v xs t k m, H'[id]? = some (.arr v xs t) ∧ m ≤ xs.length ∧ r = .ret (.vec id v k 0 m) ∧ Q (.ret (.lst (xs.take m) .none)) (H'.set id .gone)) : aC L f args H Q := fun g w vs hs hr =>
 (h g w vs hs hr).mono fun e w' ⟨r, H', g', hq, hle, hst, hrep⟩ => by
  rcases hq with hq | ⟨id, v, xs, t, k, m, h1, h2, h3, h4⟩
  ·exact ⟨r, H', g', hq, hle, hst, hrep⟩
  ·subst h3
   obtain ⟨g2, k1, k2, k3⟩ := hst.Hq h1 k h2
   obtain ⟨u, rfl, hv⟩ := hrep
   exact ⟨_, _, g2, h4, hle.trans k1, k2, u, rfl, k3 _ (hv.mono k1)⟩
structure KY (L:Lnk):Prop where
 row:∀(ns:List Bytes) (H:Heap),ns≠[]→ns.length≤2^40→∃t,aC L 208 [.lst (aJ ns) .none] H fun r H'=>r=.ret (.vec H.length ns.length 1 0 ns.length)∧H'=H ++[.arr ns.length (aJ ns) t]
structure D8 (T:Tab):Prop extends wE T where
 WS:T.has 173 Ow
 Hl:T.has 207 FU
 WE:T.has 209 T9
 Dj:T.has 243 DX
 clib:KY T.L
noncomputable def GK (e:d9) (t:TA) (nm:Bytes):Bool:=((gives (eT nm) (hdE e t)).2:Int) !=0
noncomputable def vX (e:d9) (t:TA):List Bytes:=((hdE e t).headD dH).names.filter fun nm=> !GK e t nm
def m0E (e:d9):aS:=.map (bZ e.by_ 0) e.by_.length
def m1E (e:d9):aS:=.map (gH e.empty 0) e.empty.length
def c2E :aS:=.cells [.map 0,.map 1] 234
theorem Kl (e:d9):kH e=[m0E e,m1E e,c2E]:=rfl
theorem Hr (F:D8 T) {by_:List (Bytes×TA)} {e:d9} {C:List TA} (W:kS by_ e C) {t:TA} (ht:GC' C t) (hw:wtL (hdE e t)≤2^26):
  Ea T 209 (m0E e) (m1E e) c2E (.cells [.ptr 2 0] 179) (dM t) (GK e t):=by
 have hlow:∀o∈vB (m0E e) (m1E e) c2E (.cells [.ptr 2 0] 179) (dM t),bF 5 o:=
  fO.at ⟨fC 5 _ _,gG 5 _ _,dW ⟨.map _ (by decide:0<5),.map _ (by decide:1<5),trivial⟩,dW ⟨.ptr _ _ (by decide:2<5),trivial⟩,aI (Nat.zero_le _) (dD t),trivial⟩
 refine⟨hlow,fun nm=>?_⟩;have hF:=xW F.towE W ht hw nm;unfold GK;generalize gives (eT nm) (hdE e t)=r at hF;obtain⟨u,how⟩:=r;refine eu.of 0 rfl (.bool _) hlow (aC.mono (Q:=fun r H'=>∃x J,r=.ret x∧Weak T.L x (.bool ((how:Int) !=0))∧H'=vB (m0E e) (m1E e) c2E (.cells [.ptr 2 0] 179) (dM t) ++J) ?_ fun r H' ⟨x,J,e1,e2,e3⟩=>⟨x,_,J,e1,e2,e3,rfl,fun i x y h1 h2=>by rw[h1]at h2;cases h2;exact bR.refl x⟩);have la:∀w∈[t.av,au.str nm],Low 3 w:=gD.at ⟨aT _ t,.str _,trivial⟩;have ly:Low 3 (.tup [u.av,.int .i64 how]):=.tup _ (gD.at ⟨aT _ _,.int _ _,trivial⟩);have hc:=fun(J:Heap) (K KP:au→Heap→Prop) (hk:K (.tup [u.av,.int .i64 how]) (kH e ++J))=>hF.to la ly J rfl (K:=K) (KP:=KP) hk
 rw[Kl]at hc;generalize m0E e=o0 at hc⊢;generalize m1E e=o1 at hc⊢;obtain⟨tk,tn,ts,tl⟩:=t;obtain⟨uk,un,us,ul⟩:=u;refine aG F.WE (by simp[T9]) ?_;conv=>whnf
 refine hc [_,_] _ _ ?_;conv=>whnf
 exact⟨_,_,rfl,Weak.refl _,rfl⟩
theorem Ya {t:TA} (h:wtT t≤2^30):t.names.length≤2^40:=by
 obtain⟨k,nm,ns,l⟩:=t;have:=Rs ns;rw[wtT]at h;show ns.length≤_;omega
theorem SX (Dj:T.has 243 DX) (Hl:T.has 207 FU) (g:Nat) (cs:List au) (tk:Tok) (H:Heap):aC T.L 207 [.lst [] tk,.fn (.func g) [] cs] H fun r H'=>r=.ret (.lst [] tk)∧H'=H:=by
 have h1:aC T.L 243 [.lst [] tk,.fn (.func g) [] cs] H fun r H'=>r=.ret (.int .i64 (-1))∧H'=H:=by
  refine aG Dj (by simp[DX]) ?_;conv=>whnf
  intro I hI hG;apply hI;conv=>whnf
  exact⟨rfl,rfl⟩
 refine aG Hl (by simp[FU]) ?_;conv=>whnf
 refine h1.mono (Q':=dJ _ _) fun r H' ⟨e1,e2⟩=>?_
 subst e1 e2;conv=>whnf
 exact⟨rfl,rfl⟩
theorem Bc (F:D8 T) {by_:List (Bytes×TA)} {e:d9} {C:List TA} (W:kS by_ e C) {t:TA} (ht:GC' C t) (hw:wtL (hdE e t)≤2^26):EK T.L 173 [t.av] e (.lst (aJ (vX e t)) .none):=by
 have D:=Hr F W ht hw;have hH:=W.JN F.toxY ht;have hne:=(W.Sb ht).2;have hwt:=fun h hh=>(W.Ms ht (h:=h) hh).2
 unfold vX;generalize GK e t=p at D;generalize hdE e t=hs at hH hne hwt
 cases hs with
 |nil=>exact absurd rfl hne
 |cons h0 hs=>
 have hnl:=Ya (hwt h0 (by simp));clear hwt hne;show EK T.L 173 [t.av] e (.lst (aJ (h0.names.filter fun nm=> !p nm)) .none);refine EK.of 0 (.lst _ _ trivial (pQ _ _)) (aC.Hq (aG F.WS (by simp[Ow]) ?_));have hc:=fun(J:Heap) (K KP:au→Heap→Prop) (hk:K (.lst (TA.avs (h0::hs)) .none) (kH e ++J))=>hH.to (dF (aT _ t)) (.lst _ _ trivial (aX _ _)) J rfl (K:=K) (KP:=KP) hk
 rw[Kl]at hc⊢;generalize m0E e=o0 at hc D⊢;generalize m1E e=o1 at hc D⊢;obtain⟨tk,tn,ts,tl⟩:=t;obtain⟨hk,hn,ns,hl⟩:=h0;have hnl:ns.length≤2^40:=hnl;show kV T.L Ow.body _ _ _;conv=>whnf
 refine hc [_,_] _ _ ?_;conv=>whnf
 refine⟨by decide,?_⟩;have hl1:∀ys rest:List Bytes,(aJ (ys ++rest)).take ys.length=aJ ys:=fun ys rest=>by simp[aJ]
 cases ns with
 |nil=>
  conv=>whnf
  refine⟨rfl,?_⟩;conv=>whnf
  refine⟨(by decide:2≤4),?_⟩;conv=>whnf
  refine(F.Lb.clone [] (by decide)).to ?_;conv=>whnf
  refine(SX F.Dj F.Hl 209 _ _ _).mono (Q':=dJ _ _) fun r H' ⟨e1,e2⟩=>?_
  subst e1 e2;conv=>whnf
  exact .inl ⟨_,_,rfl,Weak.refl _,rfl⟩
 |cons n0 ns=>
  conv=>whnf
  refine⟨rfl,?_⟩;obtain⟨ty,hcl⟩:=F.clib.row (n0::ns) [o0,o1,c2E,.cells [.ptr 2 0] 179,dM (.mk tk tn ts tl)] (by simp) hnl;have hdel:=Hz F.Dj F.Hl D (n0::ns) _ ty rfl hnl;conv=>whnf
  refine⟨(by decide:2≤4),?_⟩;conv=>whnf
  refine hcl.mono (Q':=dJ _ _) fun r H' ⟨e1,e2⟩=>?_
  subst e1 e2;conv=>whnf
  refine hdel.mono (Q':=dJ _ _) fun r H' ⟨rest,e1,e2,e3⟩=>?_
  subst e1 e3;conv=>whnf
  refine .inr ⟨5,_,_,ty,1,_,rfl,?_,rfl,_,_,rfl,?_,rfl⟩
  ·rw[cK,List.length_append];omega
  ·rw[hl1];exact Weak.refl _
end Go.Ag
/- The library's Clone of names: a row that may be written. -/
namespace Go.Ag
open Go
open Go.RowKit (Below)
variable {L : Lnk}
theorem mQ.Qn (M:mQ L) {t:Nat} (ht:L.ty t=M.Q8) (ns:List Bytes) (H:Heap) (hne:ns≠[]) (hn:ns.length≤2^40):
  aC L 208 [.lst (aJ ns) .none] H fun r H'=>r=.ret (.vec H.length ns.length 1 0 ns.length)∧H'=H ++[.arr ns.length (aJ ns) t]:=fun g w vs hs hr=>by
 obtain⟨v,rfl,h⟩:=EI hr;obtain⟨a,c,rfl,hc,hcell⟩:=Ce hs h;obtain⟨b,o,rfl,hb,hcell⟩:=hcell hne
 have h3:=M.clone b o ns.length c (ns.map fun s=>⟨s.toArray⟩) w (by simp) (by omega) (fun j hj=>by
  have hj':j<ns.length:=by simpa using hj
  rw[hcell j ns[j] (List.getElem?_eq_getElem hj')]
  simp only[List.getD_eq_getElem?_getD,List.getElem?_map,List.getElem?_eq_getElem hj',Option.map_some,Option.getD_some])
 refine h3.mono fun e w' ⟨v',e1,e2,_,hbl⟩=>?_
 rw[List.take_of_length_le (by simp),List.map_map]at e2;have hs1:=hs.wider hbl;rcases e2.2 with⟨rfl,h0⟩|⟨gb,cap,cur,rfl,hge,hblk,hcap,_,hsz,hcells⟩
 ·exact absurd (List.eq_nil_of_length_eq_zero h0) hne
 ·have hkp:g.kp gb=none:=by
   cases hq:g.kp gb with
   |none=>rfl
   |some o=>have:=hs.JD hq;omega
  let s:jQ:=⟨gb,0,cur.size,1⟩
  have hle:g.le (g.dR H.length ns.length s):=aA.je (hs1.new _ _ (Nat.le_refl _)) s;have hlt:gb<w'.heap.size:=(Array.getElem?_eq_some_iff.1 hblk).1
  obtain⟨k1,k2⟩:=hs1.push (b:=gb) (ob:=.arr ns.length (aJ ns) t) (s:=s) rfl hlt (fun id o s _ _ hq=>by have:=hs.bnd _ _ _ hq;omega)
   ⟨s,cur,aA.bf ..,rfl,fun m hm=>by
     simp only[aA.dR,aS.ver];rw[if_neg (by omega)];exact hs1.new _ _ (Nat.le_refl _),Nat.one_pos,by rw[ht];exact hblk,rfl,Cc ns,by rw[cK];show ns.length*1≤cur.size;omega,
    by rw[cK,Ez];show aW L _ (cur.toList.take (ns.length*1)) _;rw[hcells];exact sJ ns,
    fun o=>by
     cases hq:g.fz gb o with
     |none=>exact hq
     |some v=>have:=hs.Dm hq;omega,⟨Nat.le_trans hs.tO hge,hkp⟩⟩
  have:=Rep.vec (L:=L) (g:=g.dR H.length ns.length s) H.length ns.length 1 0 ns.length cap s (aA.bf ..) rfl hcap (by show _≤cur.size;omega);exact⟨.ret (.vec H.length ns.length 1 0 ns.length),_,_,⟨rfl,rfl⟩,k1,k2,_,e1,this⟩
end Go.Ag
/- A type and its normal form have the same heads. -/
namespace Go.Ag
open Go
variable {by_ : List (Bytes × TA)} {e : d9} {C : List TA}
end Go.Ag
/- Package parts: Call. -/
namespace Go.Ag
open Go
variable {T : Tab} {L : Lnk}
structure UH (T:Tab):Prop extends wE T where
 YA:T.has 157 XF
 Yy:T.has 199 XD
end Go.Ag
/- Laws of the greatest sound relation: it is transitive, goes into the loose one, and takes unions, records and functions apart. -/
namespace Go.Ag
open Go
section
variable {G : TA → Prop} {hd : TA → List TA}
end
variable {by_ : List (Bytes × TA)} {e : d9} {C : List TA}
end Go.Ag
/- What records, functions and others give: the plain law of PartsShapes. -/
namespace Go.Ag
open Go
variable {by_ : List (Bytes × TA)} {e : d9} {C : List TA} {T : Tab}
theorem Sc (W:kS by_ e C) {t u:TA} (ht:GC' C t) (hu:aU t=u) (h7:u.kind≠7) (h8:u.kind≠8):hdE e t=[u]:=by
 have h1:=fun x=>W.Yq (x:=x) ht hu h7 h8
 have h2:=JR e t
 cases hl:hdE e t with
 |nil=>have:=(h1 u).2 rfl;rw[hl]at this;cases this
 |cons a l=>
  rw[hl]at h1 h2;have ha:a=u:=(h1 a).1 (by simp);subst ha
  cases l with
  |nil=>rfl
  |cons b l=>
   have hb:b=a:=(h1 b).1 (by simp);subst hb;exact absurd (List.mem_cons_self) (List.nodup_cons.1 h2).1
structure YU (T:Tab):Prop extends UH T,D8 T
end Go.Ag
/- With one field less: the plain law of PartsNames. -/
namespace Go.Ag
open Go
variable {by_ : List (Bytes × TA)} {e : d9} {C : List TA} {T : Tab}
theorem xK {nm:Bytes} {ns:List Bytes} {l:List TA} (hs:ns.Pairwise (· < ·)) (hl:ns.length=l.length):(eT nm (.mk 5 [] ns l)).isSome=true↔nm∈ns:=by
 have:eT nm (.mk 5 [] ns l)=if nm∈ns then l[uQ ns nm]? else none:=if_pos rfl
 rw[this]
 by_cases hm:nm∈ns
 ·have h1:=(CQ hs).2 hm
  have h2:=(List.getElem?_eq_some_iff.1 h1).1;rw[if_pos hm,List.getElem?_eq_getElem (by omega)];simp[hm]
 ·rw[if_neg hm];simp[hm]
theorem Js {t:TA} (h4:∀h∈hdE e t,h.kind≠4) (nm:Bytes):GK e t nm=false↔∀h∈hdE e t,(eT nm h).isSome=true:=by
 unfold GK;rcases zU (part:=eT nm) h4 with⟨h1,h2⟩|⟨h1,h,hm,h2⟩
 ·rw[h1];simpa using h2
 ·rw[h1]
  constructor
  ·intro h3;cases h3
  ·intro h3
   have:=h3 h hm;rw[h2]at this;cases this
def eX (ns:List Bytes) (l:List TA):TA:=.mk 5 [] ns l
theorem zH (ns:List Bytes) (l:List TA):aU (eX ns l)=eX ns (bX l):=by unfold eX;rw[aU,if_neg (by decide)]
theorem uU (ns:List Bytes) (l:List TA):(eX ns l).kind≠7∧(eX ns l).kind≠8∧(eX ns l).kind≠4:=⟨by simp[eX,TA.kind],by simp[eX,TA.kind],by simp[eX,TA.kind]⟩
theorem MF (W:kS by_ e C) {ns:List Bytes} {l:List TA} (hc:GC' C (eX ns l)) (hs:ns.Pairwise (· < ·)) (hl:ns.length=l.length):vX e (eX ns l)=ns:=by
 have hd:hdE e (eX ns l)=[eX ns (bX l)]:=Sc W hc (zH ns l) (uU _ _).1 (uU _ _).2.1;have hn:=fun nm=>Js (e:=e) (t:=eX ns l) (fun h hh=>by rw[hd,List.mem_singleton]at hh;subst hh;exact(uU _ _).2.2) nm
 unfold vX;rw[hd]at hn⊢;show ns.filter _=ns;refine List.filter_eq_self.2 fun nm hm=>?_
 have:=(hn nm).2 fun h hh=>by
  rw[List.mem_singleton]at hh;subst hh;exact(xK hs (by rw[dX,List.length_map];exact hl)).2 hm
 rw[this];rfl
theorem ME (W:kS by_ e C) {ns ms:List Bytes} {l m:List TA} (hc:GC' C (eX ns l)) (hd:GC' C (eX ms m)) (hu:GC' C (uT (eX ns l) (eX ms m))) (hs:ns.Pairwise (· < ·)) (hl:ns.length=l.length) (ht:ms.Pairwise (· < ·)) (hm:ms.length=m.length)
  (h1:ms.filter (fun x=>decide (x∈ns))=ms) (h2:ns.filter (fun x=>decide (x∈ms))=ms):vX e (uT (eX ns l) (eX ms m))=ms:=by
 have e1:hdE e (eX ns l)=[eX ns (bX l)]:=Sc W hc (zH ns l) (uU _ _).1 (uU _ _).2.1;have e2:hdE e (eX ms m)=[eX ms (bX m)]:=Sc W hd (zH ms m) (uU _ _).1 (uU _ _).2.1;have nd:∀(q:List Bytes) (k:List TA),dH≠eX q k:=fun q k h=>by have:=congrArg TA.kind h;simp[dH,eX,TA.kind]at this
 have hh:=(Yo W hc hd hu).2 (by rw[e1,List.mem_singleton];exact nd _ _) (by rw[e2,List.mem_singleton];exact nd _ _);have hmem:∀z,z∈hdE e (uT (eX ns l) (eX ms m))↔z=eX ns (bX l)∨z=eX ms (bX m):=fun z=>by rw[hh,e1,e2,List.mem_singleton,List.mem_singleton]
 have hn:=fun nm=>Js (e:=e) (t:=uT (eX ns l) (eX ms m)) (fun h hh=>by
  rcases(hmem h).1 hh with rfl|rfl<;>exact(uU _ _).2.2) nm
 have hg:∀nm,GK e (uT (eX ns l) (eX ms m)) nm=false↔nm∈ns∧nm∈ms:=fun nm=>by
  rw[hn nm];have f1:=xK (nm:=nm) hs (l:=bX l) (by rw[dX,List.length_map];exact hl);have f2:=xK (nm:=nm) ht (l:=bX m) (by rw[dX,List.length_map];exact hm);constructor
  ·intro h
   exact⟨f1.1 (h _ ((hmem _).2 (.inl rfl))),f2.1 (h _ ((hmem _).2 (.inr rfl)))⟩
  ·rintro⟨h1,h2⟩ z hz
   rcases(hmem z).1 hz with rfl|rfl
   ·exact f1.2 h1
   ·exact f2.2 h2
 have hp:∀nm,(!GK e (uT (eX ns l) (eX ms m)) nm)=decide (nm∈ns∧nm∈ms):=fun nm=>by
  cases hq:GK e (uT (eX ns l) (eX ms m)) nm
  ·exact(decide_eq_true ((hg nm).1 hq)).symm
  ·exact(decide_eq_false fun h=>by rw[(hg nm).2 h]at hq;cases hq).symm
 unfold vX;have hne:hdE e (uT (eX ns l) (eX ms m))≠[]:=(W.Sb hu).2
 cases hl':hdE e (uT (eX ns l) (eX ms m))with
 |nil=>exact absurd hl' hne
 |cons h0 hs'=>
  have h0m:=(hmem h0).1 (by rw[hl'];simp);simp only[List.headD_cons];rw[List.filter_congr fun x _=>hp x];rcases h0m with rfl|rfl
  ·show ns.filter _=ms
   rw[←h2];refine List.filter_congr fun x hx=>?_
   rw[h2];simp[hx]
  ·show ms.filter _=ms
   conv=>rhs;rw[←h1]
   refine List.filter_congr fun x hx=>?_
   simp[hx]
end Go.Ag
/- What the judge answers, as the laws of package cupellaw09 ask it: the plain laws. -/
namespace Go.Ag
open Go
variable {by_ : List (Bytes × TA)} {e : d9} {C : List TA} {T : Tab}
end Go.Ag
/- Bodies piece by piece; calls that leave all as it is. -/
namespace Go.Ag
open Go
variable {T : Tab} {L : Lnk}
def nrmS (P:Env→Heap→Prop):mV:=fun x e H=>match x with
 |.normal=>P e H
 |_=>False
theorem U7 {a b:AC} {e:Env} {H:Heap} {P:Env→Heap→Prop} {Q:mV} (ha:dQ L a e H (nrmS P)) (hb:∀e' H',P e' H'→dQ L b e' H' Q):dQ L (.seq a b) e H Q:=by
 show dQ L a e H (sI (fun e' H'=>dQ L b e' H' Q) Q);refine lK (fun x e' H' hx=>?_) ha
 cases x with
 |normal=>exact hb _ _ hx
 |_=>exact hx.elim
def Ba (L:Lnk) (f:Nat) (args:List au) (H0:Heap) (y:au):Prop:=∀H',Go.Ag.agree H0.length H0 H'→aC L f args H' fun r H''=>r=.ret y∧H''=H'
theorem Ba.to {f:Nat} {args:List au} {H:Heap} {y:au} (h:Ba L f args H y) {K KP:au→Heap→Prop} (hk:K y H):aC L f args H (dJ K KP):=
 (h H ⟨Nat.le_refl _,fun _ _ _ h _ _=>h⟩).mono fun r H' ⟨e1,e2⟩=>by subst e1 e2;exact hk
theorem Ba.weak {f:Nat} {args args':List au} {H:Heap} {y:au} (h:Ba L f args' H y) (hw:mW L args args'):Ba L f args H y:=fun H' hg=>aC.M7 (h H' hg) hw
theorem EK.Xu {f : Nat} {args : List au} {e : d9} {y : au} (h : EK L f args e y) (ha : ∀ x ∈ args, Low 0 x) (hy : Low 0 y) {H0 : Heap} {a : Nat} (hA : zm e H0 a) : Ba L f (.ptr (a + 2) 0 :: args) H0 y := fun H' hg =>
 (h.any ha hy (hA.agree hg) (K := fun v H'' => v = y ∧ H'' = H') (KP := fun _ _ => False) ⟨rfl, rfl⟩).mono fun r H'' hq => by
  cases r with
  | ret v => exact ⟨by rw [hq.1], hq.2⟩
  | pan v => exact hq.elim
end Go.Ag
/- Drawn regions with calls of function values: their arguments are reckoned on the way. -/
namespace Go.Ag
open Go
variable {L : Lnk}
end Go.Ag

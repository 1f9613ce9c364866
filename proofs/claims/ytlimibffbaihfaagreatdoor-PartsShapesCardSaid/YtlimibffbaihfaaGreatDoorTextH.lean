/- Our texts, joined by a program of ours (join.py): part 8 of 9. -/
import Derived.Test.YtlimibffbaihfaaGreatDoorTextG
import Derived.Deep.Draws
import Derived.Lib.IndexMore
import Derived.Lib.Join
import Derived.Lib.Bytealg
import Derived.Laws.AppendOwn
import Derived.Sort.EncStr
import Derived.Sort.Grow
import Derived.Sort.Row
import Derived.Shelf.GgSortFunc.InsertionK
import Derived.Lib.ParseIntB
import Derived.Lib.AtoiErrMem
set_option linter.unusedVariables false
/- Package cupellaw08: Small, Made. -/
namespace Go.Ag
open Go
variable {T : Tab} {L : Lnk}
structure zB (T:Tab):Prop extends zD T,zA T,zx T,UY T where
 Sz:T.has 147 OG
 Xi:T.has 148 UD
 J2:T.has 190 OB
def Ob (d:d9):Bytes×TA:=(d.name,d.ts.headD jA)
def kK (l:List d9):List (Bytes×TA):=(l.filter (·.kind==2)).map Ob
theorem Kn (l:List d9) (j:Nat) (h:j<l.length):kK (l.take (j+1))=if l[j].kind==2 then kK (l.take j) ++[Ob l[j]]else kK (l.take j):=by
 rw[List.take_succ_eq_append_getElem h];unfold kK;rw[List.filter_append];cases hk:l[j].kind==2
 ·rw[if_neg (by simp),show [l[j]].filter (·.kind==2)=[]from by simp[List.filter,hk],List.append_nil]
 ·rw[if_pos rfl,show [l[j]].filter (·.kind==2)=[l[j]]from by simp[List.filter,hk],List.map_append]
  rfl
theorem IW (l:List (Bytes×TA)):dA 5 (gD l):=fun x hx=>by
 obtain⟨⟨nm,⟨k,tn,ns,tl⟩⟩,_,rfl⟩:=List.mem_map.1 hx;exact⟨rfl,rfl⟩
theorem wG (l:List (Bytes×TA)):(gD l).length=l.length:=by simp[gD]
theorem MO (l:List (Bytes×TA)) (p:Bytes×TA):gD (l ++[p])=gD l ++[wT p]:=by simp[gD]
def jh (l:List (Bytes×TA)):Nat:=(l.map fun p=>szT p.2).sum
theorem M5 (F:zB T) (l:List (Bytes×TA)) (hl:l.length≤2^30) (hw:∀p∈l,wtT p.2≤2^30) (tk:Tok) (htk:nC 0 tk):Pure T.L 148 [.lst (gD l) tk] (.bool (decide (jh l≤60))):=by
 refine Pure.run (dx (.lst _ _ htk (rZ 0 l))) (.bool _) (aG F.Xi (by simp[UD]) ?_)
 have hsum:∀j,j≤l.length→jh (l.take j)≤j*2^30:=fun j=>by
  induction j with
  |zero=>intro _;simp[jh]
  |succ j ih=>
   intro h;have h1:=ih (by omega);rw[List.take_succ_eq_append_getElem (by omega)];unfold jh at h1⊢;rw[List.map_append,List.sum_append_nat,List.map_singleton,List.sum_singleton];have h2:=hw _ (List.getElem_mem (show j<l.length by omega));have h3:=BK _ l[j].2 (Nat.le_refl _);unfold szT at*;omega
 conv=>whnf
 intro I hI hG
 have key:∀(d j:Nat) (e:Env),l.length-j=d→j≤l.length→I (fZ e [(0,.lst (gD l) tk),(3,.int .i64 ((jh (l.take j):Nat):Int)),(4,.int .i64 j)]) []:=by
  intro d
  induction d with
  |zero=>
   intro j e hd hj;have hjl:j=l.length:=by omega
   apply hI;conv=>whnf
   rw[show decide (((j:Nat):Int)<(((gD l).length:Nat):Int))=false from by rw[wG,hjl];simp];conv=>whnf
   rw[hjl,List.take_length,show decide (((jh l:Nat):Int)≤60)=decide (jh l≤60)from by
    by_cases h:jh l≤60
    ·rw[decide_eq_true h,decide_eq_true (by omega)]
    ·rw[decide_eq_false h,decide_eq_false (by omega)]]
   exact aH (Weak.refl _)
  |succ d ihd=>
   intro j e hd hj;have hjl:j<l.length:=by omega
   have hget:=Ko hjl;have hnext:=fun e=>ihd (j+1) e (by omega) hjl
   have hs1:=hsum j hj;have hs2:=hsum (j+1) hjl
   have hst:jh (l.take (j+1))=jh (l.take j)+szT l[j].2:=by
    rw[List.take_succ_eq_append_getElem hjl];unfold jh;rw[List.map_append,List.sum_append_nat,List.map_singleton,List.sum_singleton]
   rw[hst]at hnext hs2;have hwj:=hw _ (List.getElem_mem hjl);have hc:=uM F.J2 _ l[j].2 (Nat.lt_succ_self _) (by omega);have hb:(j+1)*2^30≤2^30*2^30:=Nat.mul_le_mul_right _ (by omega);generalize l[j]=v at hget hc hnext hs2 hwj;generalize jh (l.take j)=m at hnext hs2 hs1⊢;apply hI;obtain⟨nm,⟨vk,vn,vs,vl⟩⟩:=v;conv=>whnf
   rw[show decide (((j:Nat):Int)<(((gD l).length:Nat):Int))=true from by rw[wG];simp;omega];conv=>whnf
   refine step_elem (Int.natCast_nonneg _) hget rfl ?_;conv=>whnf
   refine⟨Nat.le_of_ble_eq_true rfl,?_⟩;conv=>whnf
   refine hc.to ?_;conv=>whnf
   refine inv_of [(0,.lst (gD l) tk),(3,.int .i64 ((m+szT (.mk vk vn vs vl):Nat):Int)),(4,.int .i64 (j+1:Nat))] ⟨rfl,?_,add1 (by omega),trivial⟩ (hnext _);show au.int .i64 (IntKind.i64.wrap (((m:Nat):Int)+((szT (.mk vk vn vs vl):Nat):Int)))=_;rw[IntWalk.i64_in _ (by dsimp only at hs2;omega)]
   congr 1
 exact inv_of [(0,.lst (gD l) tk),(3,.int .i64 0),(4,.int .i64 0)] ⟨rfl,rfl,rfl,trivial⟩ (key l.length 0 _ rfl (Nat.zero_le _))
theorem Xv {l:List d9} {i:Nat} (h:i<l.length):(l.map d9.av)[((i:Nat):Int).toNat]?=some l[i].av:=by
 simp[List.getElem?_map,List.getElem?_eq_getElem h]
def gM (src:Bytes):List (Bytes×TA):=kK (gJ src).1
theorem sM (src:Bytes) (hs:src.length≤600):∀p∈gM src,jC p.1∧GT p.2∧wtT p.2≤2^19:=fun p hp=>by
 unfold gM kK at hp;obtain⟨d,hd,rfl⟩:=List.mem_map.1 hp;obtain⟨h1,h2⟩:=List.mem_filter.1 hd;obtain⟨hn,t,ht,hg,hw⟩:=CJ src (by omega) d h1 (by simpa using h2);unfold Ob;rw[ht];have:(src.length+82)*(src.length+1)≤682*601:=Nat.mul_le_mul (by omega) (by omega);exact⟨hn,hg,Nat.le_trans hw (by omega)⟩
theorem Aq (src:Bytes) (hs:src.length≤600):(gM src).length≤2^30:=by
 unfold gM kK;rw[List.length_map];refine Nat.le_trans (List.length_filter_le _ _) ?_;obtain⟨hok,hlen,hdl⟩:=mM src (by omega);have zX:(bE src).rem≤src.length+1:=by unfold RS.rem;omega
 have hp:(bE src).pot≤(bE src).diags.length+2*(bE src).toks.length+1:=by
  unfold RS.pot;split<;>omega
 have:=(nP (oC src) (bE src).rem [] (bE src) ⟨hok.lt,hok.more,hok.len,hok.txt,by omega,hok.named,hok.num⟩ rfl (Nat.le_refl _) (fun d hd=>by cases hd)).2;unfold gJ;simp at this;omega
theorem Fb :∀{l:List (Bytes×TA)} {p:Bytes×TA},p∈jq l→∃q∈l,p=(q.1,aM q.2):=fun{l p}=>by
 have key:∀(l B:List (Bytes×TA)),p∈l.foldl oF B→p∈B∨∃q∈l,p=(q.1,aM q.2):=fun l=>by
  induction l with
  |nil=>exact fun B h=>.inl h
  |cons q l ih=>
   intro B h;rcases ih _ h with h|⟨r,hr,e⟩
   ·unfold oF at h
    split at h
    ·exact .inl h
    ·rcases List.mem_append.1 h with h|h
     ·exact .inl h
     ·rw[List.mem_singleton]at h;exact .inr ⟨q,by simp,h⟩
   ·exact .inr ⟨r,by simp[hr],e⟩
 intro h;rcases key l [] h with h|h
 ·cases h
 ·exact h
theorem QN (F:zB T) (src:Bytes) (hs:src.length≤600):aC T.L 147 [.str src] [] fun r H'=>∃e o0 o1,mD (jq (gM src)) e∧bC 0 o0∧bC 0 o1∧r=.ret (.tup [.ptr 4 0,.lst (gD (gM src)) .none,.bool (decide ((gM src).length≤8))])∧
  H'=[o0,o1,.map (bZ e.by_ 0) e.by_.length,.map (gG e.empty 0) e.empty.length,.cells [.map 2,.map 3] 234]:=by
 have hD:=sM src hs;have hDl:=Aq src hs;have hP:=M7 F.tozA src (by omega);have hP5:=GL F.toUY src (by omega);have hG:=CJ src (by omega);have hPl:(gJ src).1.length≤2^33:=(Ji src (by omega)).2
 have hnew:=U1 F.tozD (gM src) hDl (fun p hp=>CK (hD p hp).2.1 (by have:=(hD p hp).2.2;omega)) (fun p hp=>by
  obtain⟨q,hq,rfl⟩:=Fb hp;have h1:=(hD q hq).2.2;have h2:=og q.2;dsimp only
  omega)
 unfold gM at*;generalize (gJ src).2.diags.map bM.av=DG at hP hP5;generalize (gJ src).1=l at*;refine aC.FT 2 ?_
 refine aC.cut (aC.mono (Q:=fun r H'=>∃e o0 o1 tk J,mD (jq (kK l)) e∧bC 0 o0∧bC 0 o1∧r=.ret (.tup [.ptr 4 0,.lst (gD (kK l)) tk,.bool (decide ((kK l).length≤8))])∧
  H'=[o0,o1,.map (bZ e.by_ 0) e.by_.length,.map (gG e.empty 0) e.empty.length,.cells [.map 2,.map 3] 234] ++J) ?_ fun r H' ⟨e,o0,o1,tk,J,e1,h0,h1,e2,e3⟩=>⟨.ret (.tup [.ptr 4 0,.lst (gD (kK l)) .none,.bool (decide ((kK l).length≤8))]),[o0,o1,.map (bZ e.by_ 0) e.by_.length,.map (gG e.empty 0) e.empty.length,.cells [.map 2,.map 3] 234],J,e3,by rw[e2];exact Weak.tup ⟨Weak.refl _,Weak.tok _ _,Weak.refl _,trivial⟩,.tup _ (eZ.at ⟨.ptr _ _ (show 4<5 by decide),.lst _ _ trivial (rZ _ _),.bool _,trivial⟩),Nat.le_of_ble_eq_true rfl,
   fH.at ⟨aI (Nat.zero_le _) h0,aI (Nat.zero_le _) h1,eP 5 _ _,fP 5 _ _,dZ ⟨.map _ (show 2<5 by decide),.map _ (show 3<5 by decide),trivial⟩,trivial⟩,e,o0,o1,e1,h0,h1,rfl,rfl⟩)
 refine aG F.Sz (by simp[OG]) ?_;have h1:decide ((src.length:Int)>600)=false:=decide_eq_false (by omega);conv=>whnf
 rw[h1];conv=>whnf
 refine hP.to ?_;conv=>whnf
 refine hP5.to ?_;conv=>whnf
 intro I hI hGC
 have key:∀(d j:Nat) (XS:List au) (e:Env),l.length-j=d→j≤l.length→XS=gD (kK (l.take j))→XS.length≤j→
   I (fZ e [(5,.lst (l.map d9.av) .none),(7,.lst (l.map d9.av) .none),(9,.lst XS (bG XS.length 0)),(10,.lst XS (bG XS.length 1)),(11,.int .i64 j)]) [bB XS.length 182,bB XS.length 244]:=by
  intro d
  induction d with
  |zero=>
   intro j XS e hd hj hX hXl;have hjl:j=l.length:=by omega
   rw[hjl,List.take_length]at hX;have hlen:XS.length=(kK l).length:=by rw[hX,wG]
   apply hI;conv=>whnf
   rw[show decide (((j:Nat):Int)<(((l.map d9.av).length:Nat):Int))=false from by rw[List.length_map,hjl];simp];conv=>whnf
   rw[hX];refine(hnew _ _).mono fun r H' ⟨e,hok,e1,e2⟩=>?_
   subst e1 e2;conv=>whnf
   rw[show decide ((((gD (kK l)).length:Nat):Int)≤8)=decide ((kK l).length≤8)from by
    rw[wG]
    by_cases h:(kK l).length≤8
    ·rw[decide_eq_true h,decide_eq_true (by omega)]
    ·rw[decide_eq_false h,decide_eq_false (by omega)]]
   exact⟨e,_,_,_,[],hok,bA _ _ _,bA _ _ _,rfl,rfl⟩
  |succ d ihd=>
   intro j XS e hd hj hX hXl;have hjl:j<l.length:=by omega
   have hnext:=fun YS e h1 h2=>ihd (j+1) YS e (by omega) hjl h1 h2
   rw[Kn l j hjl]at hnext;have hget:=Xv hjl;have hg:=hG _ (List.getElem_mem hjl);generalize l[j]=v at hget hnext hg;obtain⟨vk,vp,vn,vts,ves⟩:=v;apply hI;conv=>whnf
   rw[show decide (((j:Nat):Int)<(((l.map d9.av).length:Nat):Int))=true from by rw[List.length_map];simp;omega];conv=>whnf
   refine step_elem (Int.natCast_nonneg _) hget rfl ?_;conv=>whnf
   refine⟨Nat.zero_le _,?_⟩;conv=>whnf
   dsimp only at hnext;cases hk:(vk==2)
   ·rw[hk,if_neg (by simp)]at hnext
    conv=>whnf
    exact inv_of [(5,.lst (l.map d9.av) .none),(7,.lst (l.map d9.av) .none),(9,.lst XS (bG XS.length 0)),(10,.lst XS (bG XS.length 1)),(11,.int .i64 (j+1:Nat))] ⟨rfl,rfl,rfl,rfl,add1 (show j+1<9223372036854775808 by omega),trivial⟩ (hnext XS _ hX (by omega))
   ·obtain⟨hn,t,ht,_,_⟩:=hg (by simpa using hk)
    dsimp only at ht;subst ht;rw[hk,if_pos rfl]at hnext;have hdef:Ob ⟨vk,vp,vn,[t],ves⟩=(vn,t):=rfl;rw[hdef,MO,←hX]at hnext;have sX:dA 5 XS:=by rw[hX];exact IW _
    obtain⟨tk,tn,tns,tl⟩:=t
    have app0:∀{H:Heap} {K:au→Heap→Prop} {tk0:Tok},H[0]?=some (bB XS.length 182)→K (.lst (XS ++[wT (vn,.mk tk tn tns tl)]) (bG (XS ++[wT (vn,.mk tk tn tns tl)]).length 0)) (H.set 0 (bB (XS ++[wT (vn,.mk tk tn tns tl)]).length 182))→mI 5 88 182 (.lst XS (bG XS.length 0)) (.lst [wT (vn,.mk tk tn tns tl)] tk0) H K:=
     fun h1 h2=>dQ sX (bN rfl) (by simp;omega) (by simp;omega) (by simp) h1 h2
    have app1:∀{H:Heap} {K:au→Heap→Prop} {tk0:Tok},H[1]?=some (bB XS.length 244)→K (.lst (XS ++[wT (vn,.mk tk tn tns tl)]) (bG (XS ++[wT (vn,.mk tk tn tns tl)]).length 1)) (H.set 1 (bB (XS ++[wT (vn,.mk tk tn tns tl)]).length 244))→mI 5 88 244 (.lst XS (bG XS.length 1)) (.lst [wT (vn,.mk tk tn tns tl)] tk0) H K:=
     fun h1 h2=>dQ sX (bN rfl) (by simp;omega) (by simp;omega) (by simp) h1 h2
    have hnext:=fun e=>hnext (XS ++[wT (vn,.mk tk tn tns tl)]) e rfl (by simp;omega)
    clear hX;conv=>whnf
    refine step_elem (Int.natCast_nonneg _) hget rfl ?_;conv=>whnf
    refine⟨Nat.le_of_ble_eq_true rfl,?_⟩;conv=>whnf
    refine step_elem (Int.natCast_nonneg _) hget rfl ?_;conv=>whnf
    refine⟨Nat.le_of_ble_eq_true rfl,?_⟩;conv=>whnf
    refine⟨Int.le_refl 0,?_⟩;conv=>whnf
    refine⟨rfl,?_⟩;conv=>whnf
    refine app0 rfl ?_;conv=>whnf
    refine step_elem (Int.natCast_nonneg _) hget rfl ?_;conv=>whnf
    refine⟨Nat.le_of_ble_eq_true rfl,?_⟩;conv=>whnf
    refine step_elem (Int.natCast_nonneg _) hget rfl ?_;conv=>whnf
    refine⟨Nat.le_of_ble_eq_true rfl,?_⟩;conv=>whnf
    refine⟨Int.le_refl 0,?_⟩;conv=>whnf
    refine⟨rfl,?_⟩;conv=>whnf
    refine app1 rfl ?_;conv=>whnf
    exact inv_of [(5,.lst (l.map d9.av) .none),(7,.lst (l.map d9.av) .none),(9,.lst (XS ++[wT (vn,.mk tk tn tns tl)]) (bG (XS ++[wT (vn,.mk tk tn tns tl)]).length 0)),(10,.lst (XS ++[wT (vn,.mk tk tn tns tl)]) (bG (XS ++[wT (vn,.mk tk tn tns tl)]).length 1)),(11,.int .i64 (j+1:Nat))] ⟨rfl,rfl,rfl,rfl,add1 (by omega),trivial⟩ (hnext _)
 exact inv_of [(5,.lst (l.map d9.av) .none),(7,.lst (l.map d9.av) .none),(9,.lst [] .nil),(10,.lst [] .nil),(11,.int .i64 0)] ⟨rfl,rfl,rfl,rfl,rfl,trivial⟩ (key l.length 0 [] _ rfl (Nat.zero_le _) rfl (Nat.zero_le _))
end Go.Ag
/- How many parts a type is spread to, by sizes; environments of small definitions; what a type stands for. -/
namespace Go.Ag
open Go
variable {T : Tab} {L : Lnk} {by_ : List (Bytes × TA)} {e : eu} {C : List TA}
theorem Gn (l:List TA):szL l=(l.map szT).sum:=by
 induction l with
 |nil=>rfl
 |cons t l ih=>rw[gI,List.map_cons,List.sum_cons,ih]
theorem Pd (t:TA):szL (dV t)≤szT t:=by
 obtain⟨k,nm,ns,l⟩:=t;unfold dV;split
 ·rw[p8];exact Nat.le_succ _
 ·rw[gI];exact Nat.le_refl _
theorem Li (a b:List TA):szL (a ++b)=szL a+szL b:=by simp[Gn]
theorem Vi (l:List TA):szL (aP l)≤szL l:=by
 induction l with
 |nil=>exact Nat.le_refl _
 |cons t l ih=>
  have h1:aP (t::l)=dV t ++aP l:=by unfold aP;rw[List.flatMap_cons]
  rw[h1,Li,gI];have:=Pd t;omega
theorem Pb (l:List TA):szL (gX l)≤szL l:=by
 unfold gX;rw[Gn,List.map_map];have h1:=Ao (fun p:TA×Bytes=>szT p.1) (Kr (lG (eX l)));have h2:=((nD (eX l)).map fun p:TA×Bytes=>szT p.1).sum_nat
 have h3:((eX l).map fun p:TA×Bytes=>szT p.1).sum=szL l:=by
  unfold eX;rw[List.map_map,Gn];rfl
 have h4:((fT (lG (eX l))).map (szT∘fun x=>x.1)).sum=((fT (lG (eX l))).map fun p:TA×Bytes=>szT p.1).sum:=rfl;omega
theorem O9 (l:List TA):szT (jd l)≤1+szL l:=by
 rw[l8];have hf:=Vi l;split
 ·rename_i t h
  have:=Gp (List.mem_of_find?_eq_some h);omega
 ·have h2:=Pb (aP l)
  unfold oI;split
  ·rename_i t h
   rw[h,gI]at h2;omega
  ·rw[p8];omega
theorem Nk :∀(n:Nat) (t:TA),wtT t≤n→szT (aM t)≤szT t
 |0,t,h=>by have:=BX t;omega
 |n+1,t,h=>by
  obtain⟨k,nm,ns,l⟩:=t
  have hl:∀m:List TA,(∀t∈m,wtT t≤n)→szL (dI m)≤szL m:=fun m=>by
   induction m with
   |nil=>intro _;exact Nat.le_refl _
   |cons t m ih=>
    intro hm;rw[dI,gI,gI];have h1:=Nk n t (hm t (by simp));have h2:=ih fun x hx=>hm x (by simp[hx])
    omega
  have h2:=hl l fun t ht=>by
   have h3:=gW ht;rw[wtT]at h;omega
  rw[aM,p8];split
  ·have:=O9 (dI l)
   omega
  ·rw[p8];omega
theorem IE (t:TA):szT (aM t)≤szT t:=Nk _ t (Nat.le_refl _)
def jW (f:Bytes→Nat):List Bytes→Nat
 |[]=>1
 |a::l=>f a*jW f l
theorem LM {f:Bytes→Nat} {l m:List Bytes} (h:l.Perm m):jW f l=jW f m:=by
 induction h with
 |nil=>rfl
 |cons a h ih=>rw[jW,jW,ih]
 |swap a b l=>rw[jW,jW,jW,jW,←Nat.mul_assoc,←Nat.mul_assoc,Nat.mul_comm (f b)]
 |trans _ _ h1 h2=>exact h1.trans h2
theorem ES {f:Bytes→Nat} (hf:∀a,1≤f a):∀l,1≤jW f l
 |[]=>Nat.le_refl _
 |a::l=>Nat.mul_pos (hf a) (ES hf l)
theorem EG (hE:mD by_ e) (hnd:(by_.map (·.1)).Nodup):∀n,
  (∀(P Q:List Bytes) (t:TA) (ys:List TA),(by_.map (·.1)).Perm (P ++Q)→(∀p∈P,∀r∈jD t,qZ by_ (dO by_ p) r)→bK e n t=some ys→ys.length≤szT t*jW (fun p=>szT (dO by_ p)) Q)∧
  (∀(P Q:List Bytes) (l:List TA) (ys:List TA),(by_.map (·.1)).Perm (P ++Q)→(∀p∈P,∀r∈vH l,qZ by_ (dO by_ p) r)→bQ e n l=some ys→ys.length≤szL l*jW (fun p=>szT (dO by_ p)) Q)
 |0=>⟨fun P Q t ys _ _ h=>(by rw[bK]at h;cases h),fun P Q l ys _ _ h=>(by rw[bQ]at h;cases h)⟩
 |n+1=>by
  obtain⟨h1,h2⟩:=EG hE hnd n;have hpos:∀Q,1≤jW (fun p=>szT (dO by_ p)) Q:=ES fun a=>Gm _
  have hone:∀(t:TA) Q,1≤szT t*jW (fun p=>szT (dO by_ p)) Q:=fun t Q=>Nat.mul_pos (Gm t) (hpos Q)
  refine⟨fun P Q t ys hperm hlead h=>?_,fun P Q l ys hperm hlead h=>?_⟩
  ·obtain⟨k,nm,ns,l⟩:=t
   have h0:=hone (.mk k nm ns l) Q;rw[jD]at hlead;rw[bK]at h;split at h
   ·rename_i h8
    rw[if_pos h8]at hlead;split at h
    ·cases h;simp only[List.length_singleton];exact h0
    ·rename_i he
     have hne:¬rA by_ nm:=fun h=>he ((oD hE hnd nm).2 h)
     have hdef:(by_.find? (·.1==nm)).isSome=true:=by
      cases hd:(by_.find? (·.1==nm)).isSome
      ·exact absurd (.inl hd) hne
      ·rfl
     have hkey:=J8 hdef;have hnP:nm∉P:=fun hm=>hne (.inr (hlead nm hm nm (by simp)))
     have hQ:nm∈Q:=by
      rcases List.mem_append.1 (hperm.mem_iff.1 hkey)with h|h
      ·exact absurd h hnP
      ·exact h
     rw[y9,hE.hby]at h;have hp2:(by_.map (·.1)).Perm ((nm::P) ++Q.erase nm):=hperm.trans ((List.Perm.append_left P (List.perm_cons_erase hQ)).trans List.perm_middle)
     have:=h1 (nm::P) (Q.erase nm) (dO by_ nm) ys hp2 (fun p hp r hr=>by
      rcases List.mem_cons.1 hp with rfl|hp
      ·exact .here _ _ hr
      ·exact(hlead p hp nm (by simp)).trans (.here _ _ hr)) h
     rw[LM (List.perm_cons_erase hQ),jW];refine Nat.le_trans this ?_;exact Nat.le_mul_of_pos_left _ (Gm _)
   ·rename_i h8
    rw[if_neg h8]at hlead;split at h
    ·rename_i h7
     rw[if_pos h7]at hlead;have:=h2 P Q l ys hperm hlead h;refine Nat.le_trans this (Nat.mul_le_mul_right _ ?_);rw[p8];exact Nat.le_succ _
    ·cases h;simp only[List.length_singleton];exact h0
  ·cases l with
   |nil=>rw[bQ]at h;cases h;simp
   |cons t l=>
    rw[bQ]at h
    cases hx:bK e n t with
    |none=>rw[hx]at h;cases h
    |some xs=>
     cases hr:bQ e n l with
     |none=>rw[hx,hr]at h;cases h
     |some zs=>
      rw[hx,hr]at h;cases h;have k1:=h1 P Q t xs hperm (fun p hp r hr=>hlead p hp r (by rw[vH];exact List.mem_append_left _ hr)) hx;have k2:=h2 P Q l zs hperm (fun p hp r hr=>hlead p hp r (by rw[vH];exact List.mem_append_right _ hr)) hr;rw[gI,List.length_append,Nat.add_mul];exact Nat.add_le_add k1 k2
theorem x_le :∀x:Nat,4*x*7^x≤11*8^x:=fun x=>by
 by_cases h:x<8
 ·have:∀x,x<8→4*x*7^x≤11*8^x:=by decide
  exact this x h
 ·obtain⟨k,rfl⟩:∃k,x=8+k:=⟨x-8,by omega⟩
  clear h
  induction k with
  |zero=>decide
  |succ k ih=>
   rw[←Nat.add_assoc,Nat.pow_succ,Nat.pow_succ];generalize 7^(8+k)=a at ih⊢;generalize 8^(8+k)=b at ih⊢
   have h1:4*(8+k+1)*(a*7)=4*(7*(8+k+1))*a:=by
    rw[Nat.mul_comm a 7,←Nat.mul_assoc,Nat.mul_assoc 4,Nat.mul_comm (8+k+1) 7]
   have h2:4*(7*(8+k+1))*a≤4*(8*(8+k))*a:=Nat.mul_le_mul_right _ (by omega)
   have h3:4*(8*(8+k))*a=8*(4*(8+k)*a):=by
    rw[←Nat.mul_assoc 4,Nat.mul_comm 4 8,Nat.mul_assoc 8,Nat.mul_assoc 8]
   omega
theorem Nv (f:Bytes→Nat):∀l:List Bytes,4^l.length*7^(l.map f).sum*jW f l≤11^l.length*8^(l.map f).sum
 |[]=>by simp[jW]
 |a::l=>by
  have h1:=x_le (f a)
  have h2:=Nv f l
  rw[List.length_cons,List.map_cons,List.sum_cons,jW,Nat.pow_succ,Nat.pow_succ,Nat.pow_add,Nat.pow_add]
  have:=Nat.mul_le_mul h1 h2
  generalize 4^l.length=a1 at*
  generalize 7^(l.map f).sum=a2 at*
  generalize 11^l.length=a3 at*
  generalize 8^(l.map f).sum=a4 at*
  generalize jW f l=a5 at*
  generalize 7^f a=a6 at*
  generalize 8^f a=a7 at*
  generalize f a=x at*
  calc a1*4*(a6*a2)*(x*a5)=4*x*a6*(a1*a2*a5):=by simp only[Nat.mul_assoc,Nat.mul_comm,Nat.mul_left_comm]
   _≤11*a7*(a3*a4):=this
   _=a3*11*(a7*a4):=by simp only[Nat.mul_assoc,Nat.mul_comm,Nat.mul_left_comm]
theorem VE (f:Bytes→Nat) (l:List Bytes) (hl:l.length≤8) (hs:(l.map f).sum≤60):jW f l≤10000000:=by
 have h:=Nv f l;obtain⟨a,ha⟩:∃a,l.length+a=8:=⟨8-l.length,by omega⟩;obtain⟨b,hb⟩:∃b,(l.map f).sum+b=60:=⟨60-(l.map f).sum,by omega⟩;have h4:4^a≤11^a:=Nat.pow_le_pow_left (by decide) a;have h7:7^b≤8^b:=Nat.pow_le_pow_left (by decide) b;have h2:=Nat.mul_le_mul (Nat.mul_le_mul h4 h7) h
 have e1:4^a*7^b*(4^l.length*7^(l.map f).sum*jW f l)=4^8*7^60*jW f l:=by
  rw[←ha,←hb,Nat.pow_add,Nat.pow_add];simp only[Nat.mul_assoc,Nat.mul_comm,Nat.mul_left_comm]
 have e2:11^a*8^b*(11^l.length*8^(l.map f).sum)=11^8*8^60:=by
  rw[←ha,←hb,Nat.pow_add,Nat.pow_add];simp only[Nat.mul_assoc,Nat.mul_comm,Nat.mul_left_comm]
 rw[e1,e2]at h2;rcases Nat.lt_or_ge 10000000 (jW f l)with h3|h3
 ·have h5:4^8*7^60*10000000≤4^8*7^60*jW f l:=Nat.mul_le_mul_left _ (Nat.le_of_lt h3)
  have h6:¬(4^8*7^60*10000000≤11^8*8^60):=by decide
  exact absurd (Nat.le_trans h5 h2) h6
 ·exact h3
end Go.Ag
/- Environments of small definitions; what a type stands for, and its text. -/
namespace Go.Ag
open Go
variable {T : Tab} {L : Lnk} {by_ : List (Bytes × TA)} {e : eu} {C : List TA}
theorem IJ :∀(n:Nat) (t:TA),wtT t≤n→iO t=allT t
 |0,t,h=>by have:=BX t;omega
 |n+1,t,h=>by
  obtain⟨k,nm,ns,l⟩:=t;rw[wtT]at h
  have:∀m:List TA,(∀t∈m,wtT t≤n)→uH m=zu m:=fun m=>by
   induction m with
   |nil=>intro _;rfl
   |cons t m ih=>intro hm;rw[uH,zu,IJ n t (hm t (by simp)),ih fun x hx=>hm x (by simp[hx])]
  rw[iO,allT,this l fun t ht=>by have:=gW ht;omega]
theorem II (t:TA):(iO t).length=szT t:=by rw[IJ _ t (Nat.le_refl _)];rfl
theorem Nl :∀(n:Nat) (t:TA),wtT t≤n→∀x∈iO t,szT x≤szT t
 |0,t,h=>by have:=BX t;omega
 |n+1,t,h=>by
  obtain⟨k,nm,ns,l⟩:=t;intro x hx;rw[iO]at hx;rcases List.mem_cons.1 hx with rfl|hx
  ·exact Nat.le_refl _
  ·obtain⟨u,hu,hx⟩:=rH.1 hx
   rw[wtT]at h;have h1:=Nl n u (by have:=gW hu;omega) x hx;have h2:=Gp hu;rw[p8];omega
theorem Td (hE:mD by_ e) (hnd:(by_.map (·.1)).Nodup) (bs:List TA) (hb:∀p∈by_,p.2∈bs) (hn:∀t∈bs,NT t) (hw:∀t∈bs,wtT t≤2^30) (hz:∀t∈bs,szT t≤100) (hl:bs.length≤2^10)
  (hbl:by_.length≤8) (hbs:(by_.map fun p=>szT p.2).sum≤60):lC by_ e (bs.flatMap iO)where
 ok:=hE
 nodup:=hnd
 mem:=fun p hp=>List.mem_flatMap.2 ⟨p.2,hb p hp,rG _⟩
 nt:=fun t ht=>by
  obtain⟨b,hb,ht⟩:=List.mem_flatMap.1 ht;exact Nn _ b (Nat.le_refl _) (hn b hb) t ht
 cl:=fun t ht x hx=>by
  obtain⟨b,hb,ht⟩:=List.mem_flatMap.1 ht;exact List.mem_flatMap.2 ⟨b,hb,((yw _ b (Nat.le_refl _)).1 t ht).2 x hx⟩
 wt:=fun t ht=>by
  obtain⟨b,hb,ht⟩:=List.mem_flatMap.1 ht;exact Nat.le_trans ((yw _ b (Nat.le_refl _)).1 t ht).1 (hw b hb)
 fin:=by
  have:∀(l:List TA),(∀t∈l,szT t≤100)→(l.flatMap iO).length≤l.length*100:=by
   intro l
   induction l with
   |nil=>intro _;simp
   |cons t l ih=>
    intro h;rw[List.flatMap_cons,List.length_append,List.length_cons,Nat.add_mul,II];have h2:=h t (by simp);have h3:=ih fun x hx=>h x (by simp[hx])
    omega
  have h1:=this bs hz;omega
 slen:=fun t ht=>by
  obtain⟨b,hb',ht⟩:=List.mem_flatMap.1 ht;have h1:=Nl _ b (Nat.le_refl _) t ht;have h2:=hz b hb';obtain⟨n,hs⟩:=zH hE hnd t;have h3:=(EG hE hnd n).1 [] (by_.map (·.1)) t _ (List.Perm.refl _) (fun p hp=>by cases hp) hs
  have h4:((by_.map (·.1)).map fun p=>szT (dO by_ p)).sum≤60:=by
   rw[List.map_map,show by_.map ((fun p=>szT (dO by_ p))∘(·.1))=by_.map fun p=>szT p.2 from List.map_congr_left fun p hp=>by
    show szT (dO by_ p.1)=_
    rw[zT hnd hp]]
   exact hbs
  have h5:=VE (fun p=>szT (dO by_ p)) (by_.map (·.1)) (by rw[List.length_map];exact hbl) h4;have h6:=Nat.mul_le_mul (Nat.le_trans h1 h2) h5;omega
theorem Lm :∀{l m:List TA},l.Pairwise (fun a b=>prT a 0<prT b 0)→m.Pairwise (fun a b=>prT a 0<prT b 0)→(∀x,x∈l↔x∈m)→l=m:=fun{l m} hl hm h=>by
 have nd:∀{l:List TA},l.Pairwise (fun a b=>prT a 0<prT b 0)→l.Nodup:=fun h=>h.imp fun h e=>by rw[e]at h;exact List.lt_irrefl _ h
 have hp:l.Perm m:=(List.perm_ext_iff_of_nodup (nd hl) (nd hm)).2 h;refine List.Perm.eq_of_pairwise (le:=fun a b=>prT a 0<prT b 0) (fun a b _ _ h1 h2=>absurd (List.lt_trans h1 h2) (List.lt_irrefl _)) hl hm hp
theorem LY {l m:List TA} (hl:∀t∈l,NT t) (hm:∀t∈m,NT t) (h:∀x,x∈l↔x∈m):gX l=gX m:=
 Lm (lH l) (lH m) fun x=>by rw[tC hl,tC hm,h]
open Classical in
theorem SL {l:List TA} (h:∀t∈l,NT t∧t.kind≠7):l.find? (fun t=>t.kind==4)=if dG∈l then some dG else none:=by
 cases hd:l.find? (fun t=>t.kind==4)with
 |some t=>
  have h4:t.kind=4:=by simpa using List.find?_some (p:=fun t:TA=>t.kind==4) hd
  have hm:=List.mem_of_find?_eq_some hd;have:=(h t hm).1.Ac h4;subst this;rw[if_pos hm]
 |none=>
  rw[if_neg fun hm=>List.find?_eq_none.1 hd dG hm rfl]
open Classical in
theorem join_eq {l:List TA} (h:∀t∈l,NT t∧t.kind≠7) (h0:l≠[]):jr l=if dG∈l then dG else oI (gX l):=by
 rw[Df h h0,SL h]
 by_cases hd:dG∈l
 ·rw[if_pos hd,if_pos hd]
 ·rw[if_neg hd,if_neg hd]
open Classical in
theorem Ml {l m:List TA} (hl:∀t∈l,NT t∧t.kind≠7) (hm:∀t∈m,NT t∧t.kind≠7) (l0:l≠[]) (m0:m≠[]) (hd:dG∈l↔dG∈m) (h:dG∉l→∀x,x∈l↔x∈m):jr l=jr m:=by
 rw[join_eq hl l0,join_eq hm m0]
 by_cases hx:dG∈l
 ·rw[if_pos hx,if_pos (hd.1 hx)]
 ·rw[if_neg hx,if_neg fun h=>hx (hd.2 h),LY (fun t ht=>(hl t ht).1) (fun t ht=>(hm t ht).1) (h hx)]
theorem lC.Dk {T:Tab} (W:lC by_ e C) (F:yj T) {t:TA} (ht:GC' C t):EK T.L 149 [t.av] e (.lst (TA.avs (hdE e t)) .none):=by
 obtain⟨n,h1,h2,h3⟩:=W.some _ ht.2.2
 have hE:∀p∈e.by_,wtT p.2≤2^40:=fun p hp=>by
  rw[W.ok.hby]at hp;have:=W.wt _ (W.mem p hp);omega
 have hw:∀y∈Cn e (aM t),wtT y≤2^30:=fun y hy=>by
  rcases W.spr ((uK W.ok W.nodup _ _).1 hy) ht.2.2 with rfl|h'
  ·decide
  ·exact W.wt y h'
 have hl:=W.slen _ ht.2.2;have hok:=Jq (fun y hy=>(h3 y hy).1) hl hw (by rw[Dv fun y hy=>(h3 y hy).2.1];exact hl);have:=Mw F e hE n t _ h1 hl (CK ht.1 ht.2.1) (by have:=og t;have:=ht.2.1;omega) hok;rw[Mx (fun y hy=>⟨(h3 y hy).1,(h3 y hy).2.1⟩) h2]at this;exact this
structure EnvS (by_:List (Bytes×TA)) (e:eu) (C:List TA):Prop extends lC by_ e C where
 few:C.length≤1600
 wee:∀t∈C,wtT t≤2^19
theorem XZ {l:List TA} {m:Nat} (h:∀t∈l,wtT t≤m):wtL l≤l.length*(m+8):=by
 induction l with
 |nil=>simp[wtL]
 |cons t l ih=>
  rw[wtL,List.length_cons,Nat.add_mul];have h1:=h t (by simp);have h2:=ih fun x hx=>h x (by simp[hx])
  omega
theorem EnvS.Vf {T:Tab} (F:vJ T) {u:TA} (hn:NT u) (hw:wtT u≤2^30):Pure T.L 150 [u.av] (.str (prT u 0)):=by
 have:=Gb F u (CK hn.gt hw) (by rw[gK hn];omega) (by rw[gK hn];exact hn.wf);rw[gK hn]at this;exact this
end Go.Ag
/- Types of long texts: how much they are by their sizes and their longest name; where heads come from. -/
namespace Go.Ag
open Go
variable {T : Tab} {L : Lnk} {by_ : List (Bytes × TA)} {e : eu} {C : List TA}
mutual
def Nm (m:Nat):TA→Prop
 |.mk k nm ns l=>nm.length≤m∧(∀n∈ns,n.length≤m)∧NmL m l
def NmL (m:Nat):List TA→Prop
 |[]=>True
 |t::l=>Nm m t∧NmL m l
end
theorem X6 (hb:∀p∈by_,NT p.2) {t z:TA} (h:Spr by_ t z):NT t→z=dG∨z∈dV t∨z∈by_.flatMap fun p=>iO p.2:=by
 have hp:∀{t:TA},t.kind≠7→dV t=[t]:=fun h=>if_neg h
 have hs:∀{t x:TA},NT t→x∈dV t→x∈iO t:=fun{t x} hn h=>by
  obtain⟨k,nm,ns,l⟩:=t;unfold dV at h;split at h
  ·exact((yw _ (.mk k nm ns l) (Nat.le_refl _)).1 _ (rG _)).2 x h
  ·rw[List.mem_singleton]at h;subst h;exact rG _
 induction h with
 |self t h7 h8=>exact fun _=>.inr (.inl (by rw[hp h7];simp))
 |part nm ns l x y hx h ih=>
  intro hn;have hxn:=hn.parts x hx
  have hx7:x.kind≠7:=by
   cases hn with
   |uni l h2 h h7 hs=>exact(h7 x hx).1
  rcases ih hxn with h|h|h
  ·exact .inl h
  ·rw[hp hx7,List.mem_singleton]at h
   subst h;exact .inr (.inl (by rw[show dV (.mk 7 nm ns l)=l from if_pos rfl];exact hx))
  ·exact .inr (.inr h)
 |emp nm ns l h=>exact fun _=>.inl rfl
 |ref nm ns l y he h ih=>
  intro _;obtain⟨h1,p,hp1,h2⟩:=yP hb he;rcases ih h1 with h|h|h
  ·exact .inl h
  ·rw[h2]at h h1
   exact .inr (.inr (List.mem_flatMap.2 ⟨p,hp1,hs h1 h⟩))
  ·exact .inr (.inr h)
theorem Ev :∀{l B:List TA},l.Nodup→(∀x∈l,x∈B)→wtL l≤wtL B
 |[],B,_,_=>by simp[wtL]
 |t::l,B,hn,h=>by
  open Classical in
  rw[List.nodup_cons]at hn;have hp:=List.perm_cons_erase (h t (by simp));have e:wtL B=wtL (t::B.erase t):=by rw[sI,sI];exact(hp.map _).sum_nat
  rw[e,wtL,wtL]
  have:=Ev (l:=l) (B:=B.erase t) hn.2 fun x hx=>by
   refine(List.mem_erase_of_ne fun hxt=>?_).2 (h x (by simp[hx]));subst hxt;exact hn.1 hx
  omega
theorem RB (l:List (Bytes×TA)):(jq l).length≤l.length∧((jq l).map fun p=>szT p.2).sum≤jh l:=by
 have key:∀(l B:List (Bytes×TA)),(l.foldl oF B).length≤B.length+l.length∧((l.foldl oF B).map fun p=>szT p.2).sum≤(B.map fun p=>szT p.2).sum+jh l:=fun l=>by
  induction l with
  |nil=>intro B;simp[jh]
  |cons q l ih=>
   intro B;obtain⟨h1,h2⟩:=ih (oF B q)
   have h3:(oF B q).length≤B.length+1∧((oF B q).map fun p=>szT p.2).sum≤(B.map fun p=>szT p.2).sum+szT q.2:=by
    unfold oF;have:=IE q.2;split
    ·omega
    ·rw[List.length_append,List.map_append,List.sum_append_nat];simp;omega
   unfold jh at h2⊢;rw[List.foldl_cons,List.length_cons,List.map_cons,List.sum_cons];omega
 have:=key l [];unfold jq;simpa using this
theorem Xu {m:Nat} (h:∀p∈by_,wtT p.2≤m) (hs:(by_.map fun p=>szT p.2).sum≤60):wtL (by_.flatMap fun p=>iO p.2)≤60*(m+8):=by
 have h1:=XZ (l:=by_.flatMap fun p=>iO p.2) (m:=m) fun t ht=>by
  obtain⟨p,hp,ht⟩:=List.mem_flatMap.1 ht;exact Nat.le_trans ((yw _ p.2 (Nat.le_refl _)).1 t ht).1 (h p hp)
 have h2:(by_.flatMap fun p=>iO p.2).length=(by_.map fun p=>szT p.2).sum:=by
  clear h hs h1
  induction by_ with
  |nil=>rfl
  |cons p l ih=>rw[List.flatMap_cons,List.length_append,List.map_cons,List.sum_cons,ih,II]
 rw[h2]at h1;exact Nat.le_trans h1 (Nat.mul_le_mul_right _ hs)
end Go.Ag
/- Package cupellaw08: alive. -/
namespace Go.Ag
open Go
variable {T : Tab} {L : Lnk}
end Go.Ag
/- Bodies in pieces: a run is told part by part. -/
namespace Go.Ag
open Go
variable {T : Tab} {L : Lnk}
def Dl :Nat→AC→AC
 |0,_=>.skip
 |n+1,.seq a b=>.seq a (Dl n b)
 |_+1,c=>c
def Ni :Nat→AC→AC
 |0,b=>b
 |n+1,.seq a b=>Ni n b
 |_+1,_=>.skip
theorem rM {P:Env→Heap→Prop} {Q:ni}:∀(n:Nat) (c:AC) (e:Env) (H:Heap),dS L (Dl n c) e H (sS P Q)→(∀e' H',P e' H'→dS L (Ni n c) e' H' Q)→dS L c e H Q
 |0,c,e,H,h,ht=>ht _ _ h
 |n+1,c,e,H,h,ht=>by
  have other:(∀a b,c≠.seq a b)→dS L c e H Q:=fun hne=>by
   have e1:Dl (n+1) c=c:=by cases c<;>first|rfl|exact absurd rfl (hne _ _)
   have e2:Ni (n+1) c=.skip:=by cases c<;>first|rfl|exact absurd rfl (hne _ _)
   rw[e1]at h;refine lT (fun x e' H' hx=>?_) h
   cases x with
   |normal=>
    have:=ht e' H' hx;rw[e2]at this;exact this
   |_=>exact hx
  cases c with
  |seq a b=>
   have h:dS L a e H (sS (fun e' H'=>dS L (Dl n b) e' H' (sS P Q)) (sS P Q)):=h;show dS L a e H (sS (fun e' H'=>dS L b e' H' Q) Q);refine lT (fun x e' H' hx=>?_) h
   cases x with
   |normal=>exact rM n b e' H' hx ht
   |_=>exact hx
  |_=>exact other (fun a b=>by simp)
end Go.Ag
/- Package cupellaw08: AliasOrder. -/
namespace Go.Ag
open Go
variable {T : Tab} {L : Lnk}
section congr
variable {b1 b2 : List (Bytes × TA)}
end congr
end Go.Ag
/- Unions: their heads are those of their parts together; Made, wherever it is called. -/
namespace Go.Ag
open Go
variable {T : Tab} {L : Lnk} {by_ : List (Bytes × TA)} {e : eu} {C : List TA}
def uT (x y:TA):TA:=.mk 7 [] [] [x,y]
theorem gt_uT {x y:TA} (hx:GT x) (hy:GT y):GT (uT x y):=.uni _ (by simp) (MF hx hy)
theorem lC.Sl (W:lC by_ e C) {t:TA} (ht:GC' C t):(∀y∈hdE e t,NT y∧y.kind≠7)∧hdE e t≠[]:=by
 obtain⟨n,h1,h2,h3⟩:=W.some _ ht.2.2;refine⟨fun y hy=>⟨(W.Hr ht hy).1,?_⟩,?_⟩
 ·rcases W.head ht hy with rfl|h
  ·decide
  ·exact h.2.1
 ·unfold hdE nS
  split
  ·simp
  ·exact vU h2
theorem XG (F:zB T) (src:Bytes) (hs:src.length≤600) (H:Heap):aC T.L 147 [.str src] H fun r H'=>∃e o0 o1,mD (jq (gM src)) e∧r=.ret (.tup [.ptr (H.length+4) 0,.lst (gD (gM src)) .none,.bool (decide ((gM src).length≤8))])∧
  H'=H ++[o0,o1,.map (bZ e.by_ 0) e.by_.length,.map (gG e.empty 0) e.empty.length,.cells [.map (H.length+2),.map (H.length+3)] 234]:=by
 have hp:Part H [] []:=⟨by simp,rfl,fun k i o hk=>by cases hk⟩;have hf:=aC.mW (QN F src hs) [] hp (.inr fun r H' _=>Nat.zero_le _);refine hf.mono fun r H' ⟨r1,H1,⟨e,o0,o1,h1,l0,l1,h2,h3⟩,_,h4,h5⟩=>⟨e,o0,o1,h1,?_,?_⟩
 ·rw[h4,h2]
  simp only[zK]
  congr 1
  simp only[ren,iC];rw[jK (Nat.zero_le _)]
  congr 2
  have:=jo (ρ:=nameOf [] H.length) (show Low 0 (au.lst (gD (gM src)) .none)from .lst _ _ trivial (rZ 0 _));simp only[ren]at this;rw[this]
 ·rw[h5,h3]
  simp only[List.length_nil,List.take_zero,List.map_nil,List.drop_zero,mE]
  congr 1
  simp only[List.map_cons,List.map_nil];rw[dD l0,dD l1,dD (show bC 0 (.map (bZ e.by_ 0) e.by_.length)from eP 0 _ _),dD (show bC 0 (.map (gG e.empty 0) e.empty.length)from fP 0 _ _)];simp only[jy,iC,ren];rw[jK (Nat.zero_le _),jK (Nat.zero_le _)];rfl
theorem QO (F:zB T) (src:Bytes) (hs:600<src.length):Pure T.L 147 [.str src] (.tup [.fB,.lst [] .nil,.bool false]):=by
 refine Pure.run (dx (.str _)) (.tup _ (eZ.at ⟨.fB,.lst _ _ trivial fI,.bool _,trivial⟩)) (aG F.Sz (by simp[OG]) ?_);have h1:decide ((src.length:Int)>600)=true:=decide_eq_true (by omega);conv=>whnf
 rw[h1];conv=>whnf
 exact aH (Weak.refl _)
end Go.Ag
/- Package cupellaw08: AliasUnions. -/
namespace Go.Ag
open Go
variable {T : Tab} {L : Lnk}
theorem Sm {by_:List (Bytes×TA)} {e:eu} {C:List TA} (W:lC by_ e C) {t:TA} (ht:GC' C t):(hdE e t).length≤2^29:=by
 have hh:=fun h hh=>W.head (h:=h) ht hh
 have hf:=W.fin
 have:(hdE e t).Nodup:=by
  unfold hdE nS;split
  ·simp
  ·exact(lH _).imp fun h e=>by rw[e]at h;exact List.lt_irrefl _ h
 have h1:(hdE e t).length≤(dG::C).length:=this.length_le_of_subset fun x hx=>by
  rcases hh x hx with rfl|h
  ·simp
  ·simp[h.1]
 rw[List.length_cons]at h1;omega
end Go.Ag
/- Types asked about under a source's definitions; what the heads of a type give (package parts), in plain lists. -/
namespace Go.Ag
open Go
variable {by_ : List (Bytes × TA)} {e : eu} {C : List TA}
theorem JR (e:eu) (t:TA):(hdE e t).Nodup:=by
 unfold hdE nS;split
 ·simp
 ·exact(lH _).imp fun h e=>by rw[e]at h;exact List.lt_irrefl _ h
theorem XT {D:List (Bytes×TA)} {ts:List TA} (hD:∀p∈D,jC p.1∧GT p.2∧wtT p.2≤2^19) (hl:D.length≤8) (hz:jh D≤60) (hts:∀t∈ts,GT t∧wtT t≤2^22∧szT t≤100) (hn:ts.length≤1000) (hE:mD (jq D) e):
  ∃C,lC (jq D) e C∧(∀t∈ts,GC' C t)∧∀t∈ts,wtL (hdE e t)≤2^26:=by
 obtain⟨n1,n2⟩:=RB D
 have hb:∀p∈jq D,NT p.2∧wtT p.2≤2^19:=fun p hp=>by
  obtain⟨q,hq,rfl⟩:=Fb hp;have:=og q.2;exact⟨lI (hD q hq).2.1,Nat.le_trans this (hD q hq).2.2⟩
 have hsum:((jq D).map fun p=>szT p.2).sum≤60:=Nat.le_trans n2 hz
 have hone:∀p∈jq D,szT p.2≤60:=fun p hp=>by
  refine Nat.le_trans ?_ hsum
  have:∀{l:List (Bytes×TA)},p∈l→szT p.2≤(l.map fun p=>szT p.2).sum:=fun{l} h=>by
   induction l with
   |nil=>cases h
   |cons a l ih=>
    rw[List.map_cons,List.sum_cons];rcases List.mem_cons.1 h with rfl|h
    ·omega
    ·have:=ih h;omega
  exact this hp
 obtain⟨bs,hbs⟩:∃bs,bs=(jq D).map (·.2) ++ts.map aM:=⟨_,rfl⟩
 have hin:∀b∈bs,NT b∧wtT b≤2^30∧szT b≤100:=fun b h=>by
  rw[hbs]at h;rcases List.mem_append.1 h with h|h
  ·obtain⟨p,hp,rfl⟩:=List.mem_map.1 h
   have:=hone p hp;exact⟨(hb p hp).1,Nat.le_trans (hb p hp).2 (by decide),by omega⟩
  ·obtain⟨t,ht,rfl⟩:=List.mem_map.1 h
   obtain⟨k1,k2,k3⟩:=hts t ht;exact⟨lI k1,Nat.le_trans (og t) (Nat.le_trans k2 (by decide)),Nat.le_trans (IE t) k3⟩
 have W:lC (jq D) e (bs.flatMap iO):=Td hE (AL D) bs (fun p hp=>by rw[hbs];exact List.mem_append_left _ (List.mem_map.2 ⟨p,hp,rfl⟩)) (fun t ht=>(hin t ht).1) (fun t ht=>(hin t ht).2.1) (fun t ht=>(hin t ht).2.2)
  (by rw[hbs,List.length_append,List.length_map,List.length_map];omega) (by omega) hsum
 have hc:∀t∈ts,GC' (bs.flatMap iO) t:=fun t ht=>gc_of (hts t ht).1 (Nat.le_trans (hts t ht).2.1 (by decide)) (by rw[hbs];exact List.mem_append_right _ (List.mem_map.2 ⟨t,ht,rfl⟩))
 refine⟨_,W,hc,fun t ht=>?_⟩;have h1:=Xu (m:=2^19) (fun p hp=>(hb p hp).2) hsum;have h2:=BU (aM t);have h3:=og t;have h4:wtT dG=16:=rfl;have h5:=(hts t ht).2.1
 have h6:=Ev (B:=dG::(dV (aM t) ++(jq D).flatMap fun p=>iO p.2)) (JR e t) fun z hz=>by
  rcases(W.GU (hc t ht)).1 hz with h|h
  ·rw[h.2];simp
  ·rcases X6 (fun p hp=>(hb p hp).1) h.2 (lI (hts t ht).1)with h|h|h
   ·subst h;simp
   ·simp[h]
   ·exact List.mem_cons_of_mem _ (List.mem_append_right _ h)
 rw[wtL,xD]at h6;omega
def gB (part:TA→Option TA):List TA→List TA→List TA×Nat
 |acc,[]=>(acc,0)
 |acc,h::hs=>if h.kind=4 then([],1)else match part h with
  |none=>([],2)
  |some x=>gB part (acc ++[x]) hs
def cZ (nm:Bytes) (h:TA):Option TA:=if h.kind=5 then(if nm∈h.names then h.l[uw h.names nm]? else none)else none
def kL (h:TA):Option TA:=if h.kind=6 then h.l[1]? else none
def fstP (h:TA):TA:=h.l.getD 0 dG
def gives (part:TA→Option TA) (hs:List TA):TA×Nat:=if(gB part [] hs).2=0 then(jr (gB part [] hs).1,0)else(dG,(gB part [] hs).2)
theorem wF {part:TA→Option TA}:∀(hs acc:List TA),(∀h∈hs,h.kind≠4)→(∀h∈hs,(part h).isSome=true)→gB part acc hs=(acc ++hs.filterMap part,0)
 |[],acc,_,_=>by simp[gB]
 |h::hs,acc,h4,hp=>by
  rw[gB,if_neg (h4 h (by simp))];have:=hp h (by simp)
  cases hx:part h with
  |none=>rw[hx]at this;cases this
  |some x=>
   show gB part (acc ++[x]) hs=_;rw[wF hs _ (fun t ht=>h4 t (by simp[ht])) (fun t ht=>hp t (by simp[ht])),List.filterMap_cons,hx];simp
theorem y8 {part:TA→Option TA}:∀(hs acc:List TA),(∀h∈hs,h.kind≠4)→(∃h∈hs,part h=none)→gB part acc hs=([],2)
 |[],acc,_,h=>by obtain⟨x,h,_⟩:=h;cases h
 |h::hs,acc,h4,hp=>by
  rw[gB,if_neg (h4 h (by simp))]
  cases hx:part h with
  |none=>rfl
  |some x=>
   refine y8 hs _ (fun t ht=>h4 t (by simp[ht])) ?_;obtain⟨t,ht,hn⟩:=hp;rcases List.mem_cons.1 ht with rfl|ht
   ·rw[hx]at hn;cases hn
   ·exact⟨t,ht,hn⟩
theorem FE {part:TA→Option TA} {hs:List TA} (h4:∀h∈hs,h.kind≠4):(gives part hs=(jr (hs.filterMap part),0)∧∀h∈hs,(part h).isSome=true)∨(gives part hs=(dG,2)∧∃h∈hs,part h=none):=by
 by_cases h:∃h∈hs,part h=none
 ·right
  unfold gives;rw[y8 hs [] h4 h];exact⟨rfl,h⟩
 ·left
  have hp:∀x∈hs,(part x).isSome=true:=fun x hx=>by
   cases hn:part x with
   |none=>exact absurd ⟨x,hx,hn⟩ h
   |some _=>rfl
  unfold gives;rw[wF hs [] h4 hp];exact⟨rfl,hp⟩
theorem Jt {l:List TA} (h:∀t∈l,NT t):dI l=l:=by
 rw[eB,show l.map aM=l.map id from List.map_congr_left fun t ht=>gK (h t ht),List.map_id]
theorem joinN {l:List TA} (h:∀t∈l,NT t):jr l=jd l:=by
 unfold jr;rw[aM,if_pos rfl,Jt h]
theorem Lb (l m:List TA) (h:aP l=m) (hm:aP m=m):jd l=jd m:=by
 rw[l8,l8,hm,h]
theorem Sn (W:lC by_ e C) {x:TA} (hx:GC' C x) (h:dG∈hdE e x):hdE e x=[dG]:=by
 have h1:Spr by_ (aM x) dG:=by rw[W.GU hx]at h;exact h.elim (fun h=>h.1) fun h=>h.2
 unfold hdE nS;rw[if_pos];exact List.any_eq_true.2 ⟨dG,(uK W.ok W.nodup _ _).2 h1,rfl⟩
end Go.Ag
/- Abstract codes, printed by a program of ours (acode.py) out of the given program's form. -/
namespace Go.Ag
open Go
def F4 :aO:=(.mk 3 170 [6] (.seq (.ops [(.d 6 (.mv (.const (.bool false))))]) (.seq (.seq (.ops [(.d 29 (.call 154 [])),(.d 30 (.un .not 29))]) (.cond 30 (.seq (.ops [(.d 6 (.mv (.const (.bool false))))]) .ret) .skip)) (.seq (.ops [(.d 32 (.mv 0)),(.d 33 (.mv 1)),(.d 34 (.mv 2)),(.d 35 (.lit 1 16 [] 2 [(0,33),(1,34)])),(.d 36 (.call 155 [32,35])),(.d 31 (.mv 36)),(.d 37 (.ext 31 0)),(.d 38 (.ext 31 1)),(.d 39 (.ext 31 2)),(.d 40 (.ext 31 3)),(.d 41 (.ext 31 4)),(.d 7 (.mv 37)),(.d 8 (.mv 38)),(.d 9 (.mv 39)),(.d 10 (.mv 40)),(.d 11 (.mv 41))]) (.seq (.seq (.ops [(.d 42 (.mv 11)),(.d 43 (.un .not 42))]) (.cond 43 (.seq (.ops [(.d 6 (.mv (.const (.bool true))))]) .ret) .skip)) (.seq (.ops [(.d 44 (.lit 1 16 [] 2 [(0,(.const (.str [106]))),(1,(.const (.str [107])))])),(.d 45 (.mv 9)),(.d 46 (.build [(.i 0),(.str []),.nl,.nl] [(0,(1,(.const (.i 5)))),(2,(1,44)),(3,(1,45))])),(.d 12 (.alloc [(.i 0),(.str []),.nl,.nl] 175)),(.n (.store 4 12 46))]) (.seq (.ops [(.d 47 (.mv 9)),(.d 48 (.build [(.i 0),(.str []),.nl,.nl] [(0,(1,(.const (.i 6)))),(3,(1,47))])),(.d 13 (.alloc [(.i 0),(.str []),.nl,.nl] 175)),(.n (.store 4 13 48))]) (.seq (.ops [(.d 50 (.mv 7)),(.d 51 (.load (some 4) 12)),(.d 52 (.call 156 [50,51,(.const (.str [107]))])),(.d 49 (.mv 52)),(.d 53 (.ext 49 0)),(.d 54 (.ext 49 1)),(.d 14 (.alloc [(.i 0),(.str []),.nl,.nl] 175)),(.n (.store 4 14 53)),(.d 15 (.mv 54))]) (.seq (.ops [(.d 56 (.mv 7)),(.d 57 (.load (some 4) 12)),(.d 58 (.call 156 [56,57,(.const (.str [105]))])),(.d 55 (.mv 58)),(.d 59 (.ext 55 0)),(.d 60 (.ext 55 1)),(.d 16 (.alloc [(.i 0),(.str []),.nl,.nl] 175)),(.n (.store 4 16 59)),(.d 17 (.mv 60))]) (.seq (.ops [(.d 62 (.mv 7)),(.d 63 (.load (some 4) 13)),(.d 64 (.call 156 [62,63,(.const (.str [107]))])),(.d 61 (.mv 64)),(.d 65 (.ext 61 0)),(.d 66 (.ext 61 1)),(.d 18 (.alloc [(.i 0),(.str []),.nl,.nl] 175)),(.n (.store 4 18 65)),(.d 19 (.mv 66))]) (.seq (.ops [(.d 68 (.mv 7)),(.d 69 (.load (some 4) 13)),(.d 70 (.call 157 [68,69])),(.d 67 (.mv 70)),(.d 71 (.ext 67 0)),(.d 72 (.ext 67 1)),(.d 73 (.ext 67 2)),(.d 21 (.alloc [(.i 0),(.str []),.nl,.nl] 175)),(.d 20 (.mv 71)),(.n (.store 4 21 72)),(.d 22 (.mv 73))]) (.seq (.ops [(.d 75 (.mv 7)),(.d 76 (.load (some 4) 12)),(.d 77 (.call 157 [75,76])),(.d 74 (.mv 77)),(.d 78 (.ext 74 0)),(.d 79 (.ext 74 1)),(.d 80 (.ext 74 2)),(.d 24 (.alloc [(.i 0),(.str []),.nl,.nl] 175)),(.d 23 (.mv 78)),(.n (.store 4 24 79)),(.d 25 (.mv 80))]) (.seq (.ops [(.d 81 (.mv 7)),(.d 82 (.load (some 4) 12)),(.d 83 (.call 173 [81,82])),(.d 26 (.mv 83))]) (.seq (.seq (.draw [(.d 84 (.mv 15)),(.d 85 (.bin .neq 84 (.const (.i 0)))),(.d 86 (.mv 85)),(.g 87 (.load (some 4) 14) 86 false),(.g 88 (.mv 9) 86 false),(.g 89 (.bq 4 88 (.const (.i 1))) 86 false),(.g 90 (.load (some 4) 89) 86 false),(.g 91 (.call 158 [87,90]) 86 false),(.g 92 (.un .not 91) 86 false),(.d 93 (.pick 86 (.const (.bool true)) 92)),(.d 94 (.mv 93)),(.g 95 (.mv 17) 94 false),(.g 96 (.bin .neq 95 (.const (.i 2))) 94 false),(.d 97 (.pick 94 (.const (.bool true)) 96)),(.d 98 (.mv 97)),(.g 99 (.mv 19) 98 false),(.g 100 (.bin .neq 99 (.const (.i 2))) 98 false),(.d 101 (.pick 98 (.const (.bool true)) 100)),(.d 102 (.mv 101)),(.g 103 (.mv 22) 102 false),(.g 104 (.bin .neq 103 (.const (.i 0))) 102 false),(.d 105 (.pick 102 (.const (.bool true)) 104)),(.d 106 (.mv 105)),(.g 107 (.mv 20) 106 false),(.g 108 (.iQ 107) 106 false),(.g 109 (.bin .neq 108 (.const (.i 1))) 106 false),(.d 110 (.pick 106 (.const (.bool true)) 109)),(.d 111 (.mv 110)),(.g 112 (.mv 20) 111 false),(.g 113 (.bq 4 112 (.const (.i 0))) 111 false),(.g 114 (.load (some 4) 113) 111 false),(.g 115 (.mv 9) 111 false),(.g 116 (.bq 4 115 (.const (.i 0))) 111 false),(.g 117 (.load (some 4) 116) 111 false),(.g 118 (.call 158 [114,117]) 111 false),(.g 119 (.un .not 118) 111 false),(.d 120 (.pick 111 (.const (.bool true)) 119)),(.d 121 (.mv 120)),(.g 122 (.load (some 4) 21) 121 false),(.g 123 (.mv 9) 121 false),(.g 124 (.bq 4 123 (.const (.i 1))) 121 false),(.g 125 (.load (some 4) 124) 121 false),(.g 126 (.call 158 [122,125]) 121 false),(.g 127 (.un .not 126) 121 false),(.d 128 (.pick 121 (.const (.bool true)) 127)),(.d 129 (.mv 128)),(.g 130 (.mv 25) 129 false),(.g 131 (.bin .neq 130 (.const (.i 2))) 129 false),(.d 132 (.pick 129 (.const (.bool true)) 131))] []) (.cond 132 (.seq (.ops [(.d 6 (.mv (.const (.bool false))))]) .ret) .skip)) (.seq (.ops [(.d 134 (.mv 7)),(.d 135 (.build [(.i 0),(.str []),.nl,.nl] [(0,(1,(.const (.i 1))))])),(.d 136 (.call 156 [134,135,(.const (.str [107]))])),(.d 133 (.mv 136)),(.d 137 (.ext 133 0)),(.d 138 (.ext 133 1)),(.d 27 (.alloc [(.i 0),(.str []),.nl,.nl] 175)),(.n (.store 4 27 137)),(.d 28 (.mv 138))]) (.seq (.ops [(.d 139 (.mv 26)),(.d 140 (.iQ 139)),(.d 141 (.bin .eql 140 (.const (.i 2)))),(.d 142 (.mv 141)),(.g 143 (.mv 26) 142 true),(.g 144 (.bq 1 143 (.const (.i 0))) 142 true),(.g 145 (.load none 144) 142 true),(.g 146 (.bin .eql 145 (.const (.str [106]))) 142 true),(.d 147 (.pick 142 146 (.const (.bool false)))),(.d 148 (.mv 147)),(.g 149 (.mv 26) 148 true),(.g 150 (.bq 1 149 (.const (.i 1))) 148 true),(.g 151 (.load none 150) 148 true),(.g 152 (.bin .eql 151 (.const (.str [107]))) 148 true),(.d 153 (.pick 148 152 (.const (.bool false)))),(.d 154 (.mv 153)),(.g 155 (.mv 28) 154 true),(.g 156 (.bin .eql 155 (.const (.i 2))) 154 true),(.d 157 (.pick 154 156 (.const (.bool false)))),(.d 158 (.mv 157)),(.g 159 (.mv 7) 158 true),(.g 160 (.load (some 4) 13) 158 true),(.g 161 (.call 173 [159,160]) 158 true),(.g 162 (.iQ 161) 158 true),(.g 163 (.mv 7) 158 true),(.g 164 (.build [(.i 0),(.str []),.nl,.nl] [(0,(1,(.const (.i 4))))]) 158 true),(.g 165 (.call 173 [163,164]) 158 true),(.g 166 (.iQ 165) 158 true),(.g 167 (.bin .add 162 166) 158 true),(.g 168 (.bin .eql 167 (.const (.i 0))) 158 true),(.d 169 (.pick 158 168 (.const (.bool false)))),(.d 6 (.mv 169))]) .ret))))))))))))))))
def KI :aO:=(.mk 0 37 [0] (.seq (.ops [(.d 0 (.mv (.const (.bool false))))]) (.seq (.ops [(.d 8 (.call 142 [(.const (.str [123,97,58,32,105,110,116,125,32,124,32,123,97,58,32,98,111,111,108,44,32,98,58,32,105,110,116,125]))])),(.d 7 (.mv 8)),(.d 9 (.ext 7 0)),(.d 10 (.ext 7 1)),(.d 1 (.alloc [(.i 0),(.str []),.nl,.nl] 175)),(.n (.store 4 1 9)),(.d 2 (.mv 10))]) (.seq (.gU [] (.alt (.d 12 (.call 144 [(.const .nl)])) [] (.alt (.d 13 (.load (some 4) 1)) [] (.alt (.d 14 (.call 156 [12,13,(.const (.str [97]))])) [] (.alt (.d 11 (.mv 14)) [] (.alt (.d 15 (.ext 11 0)) [] (.alt (.d 16 (.ext 11 1)) [] (.alt (.d 3 (.alloc [(.i 0),(.str []),.nl,.nl] 175)) [] (.alt (.n (.store 4 3 15)) [] (.alt (.d 4 (.mv 16)) [] .done .stop) .stop) .stop) .stop) .stop) .stop) (.alt (.d 3 (.alloc [(.i 0),(.str []),.nl,.nl] 175)) [] (.alt (.d 14 (.call 156 [12,13,(.const (.str [97]))])) [] (.alt (.d 11 (.mv 14)) [] (.alt (.d 15 (.ext 11 0)) [] (.alt (.d 16 (.ext 11 1)) [] (.alt (.n (.store 4 3 15)) [] (.alt (.d 4 (.mv 16)) [] .done .stop) .stop) .stop) .stop) .stop) .stop) .stop)) (.alt (.d 3 (.alloc [(.i 0),(.str []),.nl,.nl] 175)) [] (.alt (.d 13 (.load (some 4) 1)) [] (.alt (.d 14 (.call 156 [12,13,(.const (.str [97]))])) [] (.alt (.d 11 (.mv 14)) [] (.alt (.d 15 (.ext 11 0)) [] (.alt (.d 16 (.ext 11 1)) [] (.alt (.n (.store 4 3 15)) [] (.alt (.d 4 (.mv 16)) [] .done .stop) .stop) .stop) .stop) .stop) .stop) .stop) .stop)) (.alt (.d 13 (.load (some 4) 1)) [] (.alt (.d 12 (.call 144 [(.const .nl)])) [] (.alt (.d 14 (.call 156 [12,13,(.const (.str [97]))])) [] (.alt (.d 11 (.mv 14)) [] (.alt (.d 15 (.ext 11 0)) [] (.alt (.d 16 (.ext 11 1)) [] (.alt (.d 3 (.alloc [(.i 0),(.str []),.nl,.nl] 175)) [] (.alt (.n (.store 4 3 15)) [] (.alt (.d 4 (.mv 16)) [] .done .stop) .stop) .stop) .stop) .stop) .stop) (.alt (.d 3 (.alloc [(.i 0),(.str []),.nl,.nl] 175)) [] (.alt (.d 14 (.call 156 [12,13,(.const (.str [97]))])) [] (.alt (.d 11 (.mv 14)) [] (.alt (.d 15 (.ext 11 0)) [] (.alt (.d 16 (.ext 11 1)) [] (.alt (.n (.store 4 3 15)) [] (.alt (.d 4 (.mv 16)) [] .done .stop) .stop) .stop) .stop) .stop) .stop) .stop)) (.alt (.d 3 (.alloc [(.i 0),(.str []),.nl,.nl] 175)) [] (.alt (.d 12 (.call 144 [(.const .nl)])) [] (.alt (.d 14 (.call 156 [12,13,(.const (.str [97]))])) [] (.alt (.d 11 (.mv 14)) [] (.alt (.d 15 (.ext 11 0)) [] (.alt (.d 16 (.ext 11 1)) [] (.alt (.n (.store 4 3 15)) [] (.alt (.d 4 (.mv 16)) [] .done .stop) .stop) .stop) .stop) .stop) .stop) .stop) .stop)) (.alt (.d 3 (.alloc [(.i 0),(.str []),.nl,.nl] 175)) [] (.alt (.d 12 (.call 144 [(.const .nl)])) [] (.alt (.d 13 (.load (some 4) 1)) [] (.alt (.d 14 (.call 156 [12,13,(.const (.str [97]))])) [] (.alt (.d 11 (.mv 14)) [] (.alt (.d 15 (.ext 11 0)) [] (.alt (.d 16 (.ext 11 1)) [] (.alt (.n (.store 4 3 15)) [] (.alt (.d 4 (.mv 16)) [] .done .stop) .stop) .stop) .stop) .stop) .stop) .stop) (.alt (.d 13 (.load (some 4) 1)) [] (.alt (.d 12 (.call 144 [(.const .nl)])) [] (.alt (.d 14 (.call 156 [12,13,(.const (.str [97]))])) [] (.alt (.d 11 (.mv 14)) [] (.alt (.d 15 (.ext 11 0)) [] (.alt (.d 16 (.ext 11 1)) [] (.alt (.n (.store 4 3 15)) [] (.alt (.d 4 (.mv 16)) [] .done .stop) .stop) .stop) .stop) .stop) .stop) .stop) .stop)) .stop)))) (.seq (.gU [] (.alt (.d 18 (.call 144 [(.const .nl)])) [] (.alt (.d 19 (.load (some 4) 1)) [] (.alt (.d 20 (.call 156 [18,19,(.const (.str [98]))])) [] (.alt (.d 17 (.mv 20)) [] (.alt (.d 21 (.ext 17 0)) [] (.alt (.d 22 (.ext 17 1)) [] (.alt (.d 5 (.alloc [(.i 0),(.str []),.nl,.nl] 175)) [] (.alt (.n (.store 4 5 21)) [] (.alt (.d 6 (.mv 22)) [] .done .stop) .stop) .stop) .stop) .stop) .stop) (.alt (.d 5 (.alloc [(.i 0),(.str []),.nl,.nl] 175)) [] (.alt (.d 20 (.call 156 [18,19,(.const (.str [98]))])) [] (.alt (.d 17 (.mv 20)) [] (.alt (.d 21 (.ext 17 0)) [] (.alt (.d 22 (.ext 17 1)) [] (.alt (.n (.store 4 5 21)) [] (.alt (.d 6 (.mv 22)) [] .done .stop) .stop) .stop) .stop) .stop) .stop) .stop)) (.alt (.d 5 (.alloc [(.i 0),(.str []),.nl,.nl] 175)) [] (.alt (.d 19 (.load (some 4) 1)) [] (.alt (.d 20 (.call 156 [18,19,(.const (.str [98]))])) [] (.alt (.d 17 (.mv 20)) [] (.alt (.d 21 (.ext 17 0)) [] (.alt (.d 22 (.ext 17 1)) [] (.alt (.n (.store 4 5 21)) [] (.alt (.d 6 (.mv 22)) [] .done .stop) .stop) .stop) .stop) .stop) .stop) .stop) .stop)) (.alt (.d 19 (.load (some 4) 1)) [] (.alt (.d 18 (.call 144 [(.const .nl)])) [] (.alt (.d 20 (.call 156 [18,19,(.const (.str [98]))])) [] (.alt (.d 17 (.mv 20)) [] (.alt (.d 21 (.ext 17 0)) [] (.alt (.d 22 (.ext 17 1)) [] (.alt (.d 5 (.alloc [(.i 0),(.str []),.nl,.nl] 175)) [] (.alt (.n (.store 4 5 21)) [] (.alt (.d 6 (.mv 22)) [] .done .stop) .stop) .stop) .stop) .stop) .stop) (.alt (.d 5 (.alloc [(.i 0),(.str []),.nl,.nl] 175)) [] (.alt (.d 20 (.call 156 [18,19,(.const (.str [98]))])) [] (.alt (.d 17 (.mv 20)) [] (.alt (.d 21 (.ext 17 0)) [] (.alt (.d 22 (.ext 17 1)) [] (.alt (.n (.store 4 5 21)) [] (.alt (.d 6 (.mv 22)) [] .done .stop) .stop) .stop) .stop) .stop) .stop) .stop)) (.alt (.d 5 (.alloc [(.i 0),(.str []),.nl,.nl] 175)) [] (.alt (.d 18 (.call 144 [(.const .nl)])) [] (.alt (.d 20 (.call 156 [18,19,(.const (.str [98]))])) [] (.alt (.d 17 (.mv 20)) [] (.alt (.d 21 (.ext 17 0)) [] (.alt (.d 22 (.ext 17 1)) [] (.alt (.n (.store 4 5 21)) [] (.alt (.d 6 (.mv 22)) [] .done .stop) .stop) .stop) .stop) .stop) .stop) .stop) .stop)) (.alt (.d 5 (.alloc [(.i 0),(.str []),.nl,.nl] 175)) [] (.alt (.d 18 (.call 144 [(.const .nl)])) [] (.alt (.d 19 (.load (some 4) 1)) [] (.alt (.d 20 (.call 156 [18,19,(.const (.str [98]))])) [] (.alt (.d 17 (.mv 20)) [] (.alt (.d 21 (.ext 17 0)) [] (.alt (.d 22 (.ext 17 1)) [] (.alt (.n (.store 4 5 21)) [] (.alt (.d 6 (.mv 22)) [] .done .stop) .stop) .stop) .stop) .stop) .stop) .stop) (.alt (.d 19 (.load (some 4) 1)) [] (.alt (.d 18 (.call 144 [(.const .nl)])) [] (.alt (.d 20 (.call 156 [18,19,(.const (.str [98]))])) [] (.alt (.d 17 (.mv 20)) [] (.alt (.d 21 (.ext 17 0)) [] (.alt (.d 22 (.ext 17 1)) [] (.alt (.n (.store 4 5 21)) [] (.alt (.d 6 (.mv 22)) [] .done .stop) .stop) .stop) .stop) .stop) .stop) .stop) .stop)) .stop)))) (.seq (.ops [(.d 23 (.mv 2)),(.d 24 (.mv 23)),(.g 25 (.load (some 4) 3) 24 true),(.g 26 (.call 150 [25]) 24 true),(.g 27 (.bin .eql 26 (.const (.str [98,111,111,108,32,124,32,105,110,116]))) 24 true),(.d 28 (.pick 24 27 (.const (.bool false)))),(.d 29 (.mv 28)),(.g 30 (.mv 4) 29 true),(.g 31 (.bin .eql 30 (.const (.i 0))) 29 true),(.d 32 (.pick 29 31 (.const (.bool false)))),(.d 33 (.mv 32)),(.g 34 (.mv 6) 33 true),(.g 35 (.bin .eql 34 (.const (.i 2))) 33 true),(.d 36 (.pick 33 35 (.const (.bool false)))),(.d 0 (.mv 36))]) .ret))))))
def OE :aO:=(.mk 2 59 [4,5,6,7,8] (.seq (.ops [(.d 4 (.mv (.const .fB))),(.d 5 (.mv (.const .nl))),(.d 6 (.mv (.const .nl))),(.d 7 (.mv (.const .nl))),(.d 8 (.mv (.const (.bool false))))]) (.seq (.ops [(.d 18 (.mv 0)),(.d 19 (.call 147 [18])),(.d 17 (.mv 19)),(.d 20 (.ext 17 0)),(.d 21 (.ext 17 1)),(.d 22 (.ext 17 2)),(.d 9 (.mv 20)),(.d 10 (.mv 21)),(.d 11 (.mv 22))]) (.seq (.ops [(.d 24 (.mv 1)),(.d 25 (.call 194 [24])),(.d 23 (.mv 25)),(.d 26 (.ext 23 0)),(.d 27 (.ext 23 1)),(.d 28 (.ext 23 2)),(.d 12 (.mv 26)),(.d 13 (.mv 27)),(.d 14 (.mv 28))]) (.seq (.seq (.ops [(.d 29 (.mv 11)),(.d 30 (.un .not 29)),(.d 31 (.mv 30)),(.g 32 (.mv 14) 31 false),(.g 33 (.un .not 32) 31 false),(.d 34 (.pick 31 (.const (.bool true)) 33)),(.d 35 (.mv 34)),(.g 36 (.mv 10) 35 false),(.g 37 (.call 148 [36]) 35 false),(.g 38 (.un .not 37) 35 false),(.d 39 (.pick 35 (.const (.bool true)) 38))]) (.cond 39 (.seq (.ops [(.d 4 (.mv (.const .fB))),(.d 5 (.mv (.const .nl))),(.d 6 (.mv (.const .nl))),(.d 7 (.mv (.const .nl))),(.d 8 (.mv (.const (.bool false))))]) .ret) .skip)) (.seq (.ops [(.d 15 (.mv (.const (.i 0))))]) (.seq (.seq (.ops [(.d 16 (.mv (.const (.i 0))))]) (.block 0 (.loop (.seq (.seq (.ops [(.d 40 (.mv 16)),(.d 41 (.mv 13)),(.d 42 (.iQ 41)),(.d 43 (.bin .lss 40 42))]) (.cond 43 .skip (.exit 0))) (.seq (.block 1 (.ops [(.d 46 (.mv 15)),(.d 47 (.mv 13)),(.d 48 (.mv 16)),(.d 49 (.bq 4 47 48)),(.d 50 (.load (some 4) 49)),(.d 51 (.call 190 [50])),(.d 52 (.bin .add 46 51)),(.d 15 (.mv 52))])) (.ops [(.d 44 (.mv 16)),(.d 45 (.bin .add 44 (.const (.i 1)))),(.d 16 (.mv 45))])))))) (.seq (.ops [(.d 53 (.mv 9)),(.d 54 (.mv 10)),(.d 55 (.mv 12)),(.d 56 (.mv 13)),(.d 57 (.mv 15)),(.d 58 (.bin .leq 57 (.const (.i 40)))),(.d 4 (.mv 53)),(.d 5 (.mv 54)),(.d 6 (.mv 55)),(.d 7 (.mv 56)),(.d 8 (.mv 58))]) .ret))))))))
def Ux :aO:=(.mk 3 24 [(.cell 6 (some 4)),7] (.seq (.ops [(.d 4 (.box 175 1)),(.d 5 (.box 10 2)),(.d 6 (.alloc [(.i 0),(.str []),.nl,.nl] 175)),(.d 7 (.mv (.const (.i 0))))]) (.seq (.ops [(.d 11 (.mv 0)),(.d 12 (.load (some 4) 4)),(.d 13 (.mkF (.func 196) [] [5])),(.d 14 (.call 195 [11,12,13])),(.d 10 (.mv 14)),(.d 15 (.ext 10 0)),(.d 16 (.ext 10 1)),(.d 8 (.mv 15)),(.d 9 (.mv 16))]) (.seq (.seq (.ops [(.d 17 (.mv 9)),(.d 18 (.bin .neq 17 (.const (.i 0))))]) (.cond 18 (.seq (.ops [(.d 19 (.call 198 [])),(.d 20 (.mv 9)),(.n (.store 4 6 19)),(.d 7 (.mv 20))]) .ret) .skip)) (.seq (.ops [(.d 21 (.mv 8)),(.d 22 (.call 151 [21])),(.d 23 (.mv 9)),(.n (.store 4 6 22)),(.d 7 (.mv 23))]) .ret)))))
def Uw :aO:=(.mk 2 25 [4,(.cell 5 (some 4)),6] (.seq (.ops [(.d 3 (.box 175 1)),(.d 4 (.mv (.const .nl))),(.d 5 (.alloc [(.i 0),(.str []),.nl,.nl] 175)),(.d 6 (.mv (.const (.i 0))))]) (.seq (.ops [(.d 7 (.alloc [.nl] 173))]) (.seq (.ops [(.d 11 (.mv 0)),(.d 12 (.load (some 4) 3)),(.d 13 (.mkF (.func 199) [] [7])),(.d 14 (.call 195 [11,12,13])),(.d 10 (.mv 14)),(.d 15 (.ext 10 0)),(.d 16 (.ext 10 1)),(.d 8 (.mv 15)),(.d 9 (.mv 16))]) (.seq (.seq (.ops [(.d 17 (.mv 9)),(.d 18 (.bin .neq 17 (.const (.i 0))))]) (.cond 18 (.seq (.ops [(.d 19 (.call 198 [])),(.d 20 (.mv 9)),(.d 4 (.mv (.const .nl))),(.n (.store 4 5 19)),(.d 6 (.mv 20))]) .ret) .skip)) (.seq (.gU [(.d 21 (.load none 7)),(.d 22 (.mv 8)),(.d 24 (.mv 9))] (.alt (.d 23 (.call 151 [22])) [(none,7)] (.alt (.d 4 (.mv 21)) [] (.alt (.n (.store 4 5 23)) [] (.alt (.d 6 (.mv 24)) [] .done .stop) .stop) .stop) .stop)) .ret))))))
def OD :aO:=(.mk 2 10 [4] (.seq (.ops [(.d 2 (.box 175 0)),(.d 3 (.box 175 1)),(.d 4 (.mv (.const (.bool false))))]) (.seq (.gU [(.d 5 (.load (some 4) 2)),(.d 7 (.load (some 4) 3))] (.alt (.d 6 (.call 150 [5])) [((some 4),3)] (.alt (.d 8 (.call 150 [7])) [] (.alt (.d 9 (.bin .eql 6 8)) [] (.alt (.d 4 (.mv 9)) [] .done .stop) .stop) .stop) .stop)) .ret)))
def OC :aO:=(.mk 2 16 [4] (.seq (.ops [(.d 2 (.box 179 0)),(.d 3 (.box 175 1)),(.d 4 (.mv (.const .nl)))]) (.seq (.ops [(.d 6 (.load none 2)),(.d 7 (.load (some 4) 3)),(.d 8 (.call 149 [6,7])),(.d 5 (.mv 8))]) (.seq (.ops [(.d 9 (.mv 5)),(.d 10 (.bq 4 9 (.const (.i 0)))),(.d 11 (.aB 2 10)),(.d 12 (.load none 11)),(.d 13 (.call 208 [12])),(.d 14 (.mkF (.func 209) [] [2,3])),(.d 15 (.call 207 [13,14])),(.d 4 (.mv 15))]) .ret))))
def Um :aO:=(.mk 1 59 [2,3,4] (.seq (.ops [(.d 2 (.mv (.const .nl))),(.d 3 (.mv (.const .nl))),(.d 4 (.mv (.const (.bool false))))]) (.seq (.ops [(.d 5 (.mv (.const .nl)))]) (.seq (.ops [(.d 6 (.mv (.const .nl)))]) (.seq (.seq (.ops [(.d 7 (.mv (.const (.i 0))))]) (.block 0 (.loop (.seq (.seq (.ops [(.d 12 (.mv 7)),(.d 13 (.mv 0)),(.d 14 (.iQ 13)),(.d 15 (.bin .lss 12 14))]) (.cond 15 .skip (.exit 0))) (.seq (.block 1 (.seq (.seq (.ops [(.d 18 (.mv 0)),(.d 19 (.mv 7)),(.d 20 (.bq 1 18 19)),(.d 21 (.load none 20)),(.d 22 (.qo 21)),(.d 23 (.bin .gtr 22 (.const (.i 600))))]) (.cond 23 (.seq (.ops [(.d 2 (.mv (.const .nl))),(.d 3 (.mv (.const .nl))),(.d 4 (.mv (.const (.bool false))))]) .ret) .skip)) (.seq (.ops [(.d 25 (.mv 0)),(.d 26 (.mv 7)),(.d 27 (.bq 1 25 26)),(.d 28 (.load none 27)),(.d 29 (.call 142 [28])),(.d 24 (.mv 29)),(.d 30 (.ext 24 0)),(.d 31 (.ext 24 1)),(.d 8 (.alloc [(.i 0),(.str []),.nl,.nl] 175)),(.n (.store 4 8 30)),(.d 9 (.mv 31))]) (.seq (.ops [(.d 33 (.mv 0)),(.d 34 (.mv 7)),(.d 35 (.bq 1 33 34)),(.d 36 (.load none 35)),(.d 37 (.call 233 [36])),(.d 32 (.mv 37)),(.d 38 (.ext 32 0)),(.d 39 (.ext 32 1)),(.d 10 (.alloc [(.i 0),(.str []),.nl,.nl] 109)),(.n (.store 4 10 38)),(.d 11 (.mv 39))]) (.seq (.seq (.ops [(.d 40 (.mv 9)),(.d 41 (.un .not 40)),(.d 42 (.mv 41)),(.g 43 (.mv 11) 42 false),(.g 44 (.un .not 43) 42 false),(.d 45 (.pick 42 (.const (.bool true)) 44))]) (.cond 45 (.seq (.ops [(.d 2 (.mv (.const .nl))),(.d 3 (.mv (.const .nl))),(.d 4 (.mv (.const (.bool false))))]) .ret) .skip)) (.seq (.ops [(.d 46 (.mv 5)),(.d 47 (.load (some 4) 8)),(.d 48 (.lit 4 72 [] 1 [(0,47)])),(.d 49 (.append 4 72 175 46 48)),(.d 5 (.mv 49))]) (.ops [(.d 50 (.mv 6)),(.d 51 (.load (some 4) 10)),(.d 52 (.lit 4 72 [] 1 [(0,51)])),(.d 53 (.append 4 72 109 50 52)),(.d 6 (.mv 53))]))))))) (.ops [(.d 16 (.mv 7)),(.d 17 (.bin .add 16 (.const (.i 1)))),(.d 7 (.mv 17))])))))) (.seq (.ops [(.d 54 (.mv 5)),(.d 55 (.mv 6)),(.d 56 (.mv 0)),(.d 57 (.iQ 56)),(.d 58 (.bin .leq 57 (.const (.i 12)))),(.d 2 (.mv 54)),(.d 3 (.mv 55)),(.d 4 (.mv 58))]) .ret))))))
def OA :aO:=(.mk 3 38 [6,7] (.seq (.ops [(.d 4 (.box 175 1)),(.d 6 (.mv (.const .nl))),(.d 7 (.mv (.const (.i 0))))]) (.seq (.ops [(.d 8 (.mv (.const .nl)))]) (.seq (.seq (.ops [(.d 13 (.mv 0)),(.d 14 (.load (some 4) 4)),(.d 15 (.call 149 [13,14])),(.d 16 (.iQ 15)),(.d 17 (.mv (.const (.i 0))))]) (.block 0 (.loop (.seq (.ops [(.d 18 (.bin .lss 17 16))]) (.seq (.cond 18 .skip (.exit 0)) (.seq (.block 1 (.seq (.ops [(.d 19 (.bq 4 15 17)),(.d 20 (.load (some 4) 19)),(.d 10 (.alloc [(.i 0),(.str []),.nl,.nl] 175)),(.n (.store 4 10 20))]) (.seq (.seq (.ops [(.d 21 (.aB 0 10)),(.d 22 (.load none 21)),(.d 23 (.bin .eql 22 (.const (.i 4))))]) (.cond 23 (.seq (.ops [(.d 6 (.mv (.const .nl))),(.d 7 (.mv (.const (.i 1))))]) .ret) .skip)) (.seq (.ops [(.d 25 (.mv 2)),(.d 26 (.load (some 4) 10)),(.d 27 (.jv 25 [26])),(.d 24 (.mv 27)),(.d 28 (.ext 24 0)),(.d 29 (.ext 24 1)),(.d 11 (.alloc [(.i 0),(.str []),.nl,.nl] 175)),(.n (.store 4 11 28)),(.d 12 (.mv 29))]) (.seq (.seq (.ops [(.d 30 (.mv 12)),(.d 31 (.un .not 30))]) (.cond 31 (.seq (.ops [(.d 6 (.mv (.const .nl))),(.d 7 (.mv (.const (.i 2))))]) .ret) .skip)) (.ops [(.d 32 (.mv 8)),(.d 33 (.load (some 4) 11)),(.d 34 (.lit 4 72 [] 1 [(0,33)])),(.d 35 (.append 4 72 175 32 34)),(.d 8 (.mv 35))])))))) (.ops [(.d 36 (.bin .add 17 (.const (.i 1)))),(.d 17 (.mv 36))]))))))) (.seq (.ops [(.d 37 (.mv 8)),(.d 6 (.mv 37)),(.d 7 (.mv (.const (.i 0))))]) .ret)))))
def Ul :aO:=(.mk 2 26 [(.cell 3 (some 4)),4] (.seq (.ops [(.d 2 (.box 175 0)),(.d 3 (.alloc [(.i 0),(.str []),.nl,.nl] 175)),(.d 4 (.mv (.const (.bool false))))]) (.seq (.seq (.ops [(.d 7 (.aB 0 2)),(.d 8 (.load none 7)),(.d 9 (.bin .neq 8 (.const (.i 5))))]) (.cond 9 (.seq (.ops [(.d 10 (.build [(.i 0),(.str []),.nl,.nl] [])),(.n (.store 4 3 10)),(.d 4 (.mv (.const (.bool false))))]) .ret) .skip)) (.seq (.ops [(.d 12 (.aB 2 2)),(.d 13 (.load none 12)),(.d 14 (.load none 1)),(.d 15 (.call 197 [13,14])),(.d 11 (.mv 15)),(.d 16 (.ext 11 0)),(.d 17 (.ext 11 1)),(.d 5 (.mv 16)),(.d 6 (.mv 17))]) (.seq (.seq (.ops [(.d 18 (.mv 6)),(.d 19 (.un .not 18))]) (.cond 19 (.seq (.ops [(.d 20 (.build [(.i 0),(.str []),.nl,.nl] [])),(.n (.store 4 3 20)),(.d 4 (.mv (.const (.bool false))))]) .ret) .skip)) (.seq (.ops [(.d 21 (.aB 3 2)),(.d 22 (.load none 21)),(.d 23 (.mv 5)),(.d 24 (.bq 4 22 23)),(.d 25 (.load (some 4) 24)),(.n (.store 4 3 25)),(.d 4 (.mv (.const (.bool true))))]) .ret))))))
def Oy :aO:=(.mk 0 2 [(.cell 0 (some 4))] (.seq (.ops [(.d 0 (.alloc [(.i 0),(.str []),.nl,.nl] 175))]) (.seq (.ops [(.d 1 (.build [(.i 0),(.str []),.nl,.nl] [(0,(1,(.const (.i 4))))])),(.n (.store 4 0 1))]) .ret)))
def Ox :aO:=(.mk 2 22 [(.cell 3 (some 4)),4] (.seq (.ops [(.d 2 (.box 175 0)),(.d 3 (.alloc [(.i 0),(.str []),.nl,.nl] 175)),(.d 4 (.mv (.const (.bool false))))]) (.seq (.seq (.ops [(.d 5 (.aB 0 2)),(.d 6 (.load none 5)),(.d 7 (.bin .neq 6 (.const (.i 6))))]) (.cond 7 (.seq (.ops [(.d 8 (.build [(.i 0),(.str []),.nl,.nl] [])),(.n (.store 4 3 8)),(.d 4 (.mv (.const (.bool false))))]) .ret) .skip)) (.seq (.gU [(.d 9 (.load none 1)),(.d 10 (.aB 3 2)),(.d 11 (.load none 10)),(.d 12 (.bq 4 11 (.const (.i 0)))),(.d 13 (.load (some 4) 12)),(.d 14 (.iQ 9)),(.d 15 (.lit 4 72 [] 1 [(0,(.const (.agg [(.i 0),(.str []),.nl,.nl])))]))] (.alt (.d 16 (.append 4 72 175 9 15)) [] (.alt (.d 17 (.bq 4 16 14)) [] (.alt (.n (.store 4 17 13)) [] (.alt (.n (.store 1 1 16)) [] .done .stop) (.alt (.n (.store 1 1 16)) [] (.alt (.n (.store 4 17 13)) [] .done .stop) .stop)) (.alt (.n (.store 1 1 16)) [] (.alt (.d 17 (.bq 4 16 14)) [] (.alt (.n (.store 4 17 13)) [] .done .stop) .stop) .stop)) .stop)) (.seq (.ops [(.d 18 (.aB 3 2)),(.d 19 (.load none 18)),(.d 20 (.bq 4 19 (.const (.i 1)))),(.d 21 (.load (some 4) 20)),(.n (.store 4 3 21)),(.d 4 (.mv (.const (.bool true))))]) .ret)))))
def F3 :aO:=(.mk 2 42 [4] (.seq (.ops [(.d 4 (.mv (.const .nl)))]) (.seq (.ops [(.d 8 (.mv 0)),(.d 9 (.mv 1)),(.d 10 (.call 243 [8,9])),(.d 5 (.mv 10))]) (.seq (.seq (.ops [(.d 11 (.mv 5)),(.d 12 (.bin .eql 11 (.const (.i (-1)))))]) (.cond 12 (.seq (.ops [(.d 13 (.mv 0)),(.d 4 (.mv 13))]) .ret) .skip)) (.seq (.seq (.ops [(.d 14 (.mv 5)),(.d 15 (.bin .add 14 (.const (.i 1)))),(.d 6 (.mv 15))]) (.block 0 (.loop (.seq (.seq (.ops [(.d 16 (.mv 6)),(.d 17 (.mv 0)),(.d 18 (.iQ 17)),(.d 19 (.bin .lss 16 18))]) (.cond 19 .skip (.exit 0))) (.seq (.block 1 (.seq (.ops [(.d 22 (.mv 0)),(.d 23 (.mv 6)),(.d 24 (.bq 1 22 23)),(.d 25 (.load none 24)),(.d 7 (.mv 25))]) (.seq (.ops [(.d 26 (.mv 1)),(.d 27 (.mv 7)),(.d 28 (.jv 26 [27])),(.d 29 (.un .not 28))]) (.cond 29 (.seq (.ops [(.d 30 (.mv 0)),(.d 31 (.mv 5)),(.d 32 (.mv 7)),(.d 33 (.bq 1 30 31)),(.n (.store 1 33 32))]) (.ops [(.d 34 (.mv 5)),(.d 35 (.bin .add 34 (.const (.i 1)))),(.d 5 (.mv 35))])) .skip)))) (.ops [(.d 20 (.mv 6)),(.d 21 (.bin .add 20 (.const (.i 1)))),(.d 6 (.mv 21))])))))) (.seq (.ops [(.d 36 (.mv 0)),(.d 37 (.mv 5)),(.d 38 (.xJ 1 36 (some 37) none)),(.n (.clr 1 (.str []) 38))]) (.seq (.ops [(.d 39 (.mv 0)),(.d 40 (.mv 5)),(.d 41 (.xJ 1 39 none (some 40))),(.d 4 (.mv 41))]) .ret)))))))
def Uk :aO:=(.mk 3 16 [4] (.seq (.ops [(.d 4 (.mv (.const (.bool false))))]) (.seq (.ops [(.d 8 (.load none 1)),(.d 9 (.load (some 4) 2)),(.d 10 (.mv 0)),(.d 11 (.call 156 [8,9,10])),(.d 7 (.mv 11)),(.d 12 (.ext 7 0)),(.d 13 (.ext 7 1)),(.d 5 (.alloc [(.i 0),(.str []),.nl,.nl] 175)),(.n (.store 4 5 12)),(.d 6 (.mv 13))]) (.seq (.ops [(.d 14 (.mv 6)),(.d 15 (.bin .neq 14 (.const (.i 0)))),(.d 4 (.mv 15))]) .ret))))
def TW :aO:=(.mk 1 29 [(.cell 2 (some 4)),3] (.seq (.ops [(.d 2 (.alloc [(.i 0),(.str []),.nl,.nl] 109)),(.d 3 (.mv (.const (.bool false))))]) (.seq (.ops [(.d 6 (.mv 0)),(.d 7 (.call 39 [6])),(.d 4 (.alloc [.nl,(.i 0),.nl,(.bool false)] 83)),(.n (.store 4 4 7))]) (.seq (.ops [(.d 8 (.call 62 [4,(.const (.i 1))])),(.d 5 (.alloc [(.i 0),(.str []),.nl,.nl] 109)),(.n (.store 4 5 8))]) (.seq (.seq (.ops [(.d 9 (.aB 3 4)),(.d 10 (.load none 9)),(.d 11 (.mv 10)),(.g 12 (.aB 0 4) 11 false),(.g 13 (.load none 12) 11 false),(.g 14 (.aB 1 4) 11 false),(.g 15 (.load none 14) 11 false),(.g 16 (.bq 3 13 15) 11 false),(.g 17 (.aB 0 16) 11 false),(.g 18 (.load none 17) 11 false),(.g 19 (.bin .neq 18 (.const (.i 6))) 11 false),(.d 20 (.pick 11 (.const (.bool true)) 19)),(.d 21 (.mv 20)),(.g 22 (.aB 2 4) 21 false),(.g 23 (.load none 22) 21 false),(.g 24 (.iQ 23) 21 false),(.g 25 (.bin .gtr 24 (.const (.i 0))) 21 false),(.d 26 (.pick 21 (.const (.bool true)) 25))]) (.cond 26 (.seq (.ops [(.d 27 (.build [(.i 0),(.str []),.nl,.nl] [])),(.n (.store 4 2 27)),(.d 3 (.mv (.const (.bool false))))]) .ret) .skip)) (.seq (.ops [(.d 28 (.load (some 4) 5)),(.n (.store 4 2 28)),(.d 3 (.mv (.const (.bool true))))]) .ret))))))
def D7 :aO:=(.mk 2 19 [4] (.seq (.ops [(.d 4 (.mv (.const (.i 0))))]) (.seq (.seq (.ops [(.d 6 (.mv 0)),(.d 7 (.iQ 6)),(.d 8 (.mv (.const (.i 0))))]) (.block 0 (.loop (.seq (.ops [(.d 9 (.bin .lss 8 7))]) (.seq (.cond 9 .skip (.exit 0)) (.seq (.block 1 (.seq (.ops [(.d 10 (.mv 8)),(.d 5 (.mv 10))]) (.seq (.ops [(.d 11 (.mv 1)),(.d 12 (.mv 0)),(.d 13 (.mv 5)),(.d 14 (.bq 1 12 13)),(.d 15 (.load none 14)),(.d 16 (.jv 11 [15]))]) (.cond 16 (.seq (.ops [(.d 17 (.mv 5)),(.d 4 (.mv 17))]) .ret) .skip)))) (.ops [(.d 18 (.bin .add 8 (.const (.i 1)))),(.d 8 (.mv 18))]))))))) (.seq (.ops [(.d 4 (.mv (.const (.i (-1)))))]) .ret))))
end Go.Ag
/- Package parts: each (what each head gives). -/
namespace Go.Ag
open Go
variable {T : Tab} {L : Lnk} {σ : Type}
def nL (e:eu):Heap:=[.map (bZ e.by_ 0) e.by_.length,.map (gG e.empty 0) e.empty.length,.cells [.map 2,.map 3] 234]
def lM (f:σ→TA→Option TA×σ):σ→List TA→List TA→(List TA×Nat)×σ
 |s,acc,[]=>((acc,0),s)
 |s,acc,h::hs=>if h.kind=4 then(([],1),s)else match f s h with
  |(none,s')=>(([],2),s')
  |(some x,s')=>lM f s' (acc ++[x]) hs
theorem DK {f:σ→TA→Option TA×σ} {part:TA→Option TA} (h:∀s t,(f s t).1=part t):∀(hs acc:List TA) (s:σ),(lM f s acc hs).1=gB part acc hs
 |[],acc,s=>rfl
 |t::hs,acc,s=>by
  rw[lM,gB];split
  ·rfl
  ·have:=h s t
   generalize f s t=q at this;obtain⟨a,b⟩:=q;dsimp only at this;subst this
   cases part t with
   |none=>rfl
   |some x=>exact DK h hs (acc ++[x]) b
structure M6 (T:Tab) (g:Nat) (p q:σ→aT) (P:Nat→σ→Prop) (f:σ→TA→Option TA×σ):Prop where
 PE:∀s,bC 2 (p s)
 PD:∀s,bC 2 (q s)
 call:∀n s y,P n s→n<2^30→NT y→wtT y≤2^30→dX T.L g [y.av,.ptr 0 0] [p s,q s] (.tup [((f s y).1.getD jA).av,.bool (f s y).1.isSome]) [p (f s y).2,q (f s y).2]
 next:∀n s y,P n s→P (n+1) (f s y).2
theorem FN (ME:T.has 195 OA) {g:Nat} {p q:σ→aT} {P:Nat→σ→Prop} {f:σ→TA→Option TA×σ} (A:M6 T g p q P f) {e:eu} {t:TA} {hs:List TA} (hH:EK T.L 149 [t.av] e (.lst (TA.avs hs) .none))
  (hn:∀h∈hs,NT h∧wtT h≤2^30) (hl:hs.length≤2^29) (s:σ) (h0:P 0 s):
  dX T.L 195 [.ptr 4 0,t.av,.fn (.func g) [] [.ptr 0 0]] (p s::q s::nL e) (.tup [.lst (TA.avs (lM f s [] hs).1.1) .none,.int .i64 (lM f s [] hs).1.2]) (p (lM f s [] hs).2::q (lM f s [] hs).2::nL e):=by
 have RH:∀n,5≤n→fH n (nL e):=fun n h=>⟨aI (Nat.zero_le _) (eP 0 _ _),aI (Nat.zero_le _) (fP 0 _ _),dZ ⟨.map _ (by omega),.map _ (by omega),trivial⟩,trivial⟩
 refine dX.of 1 rfl (.tup _ (eZ.at ⟨.lst _ _ trivial (aV _ _),.int _ _,trivial⟩)) (fH.at ⟨aI (by show 2≤5;decide) (A.PE _),aI (by show 2≤5;decide) (A.PD _),RH 5 (Nat.le_refl _)⟩)
  (aC.mono (Q:=fun r H'=>∃J tk,r=.ret (.tup [.lst (TA.avs (lM f s [] hs).1.1) tk,.int .i64 (lM f s [] hs).1.2])∧H'=(p (lM f s [] hs).2::q (lM f s [] hs).2::nL e) ++J) ?_ fun r H' ⟨J,tk,e1,e2⟩=>⟨_,_,J,e1,Weak.tup ⟨Weak.tok _ _,Weak.refl _,trivial⟩,e2,rfl,fun i x y h1 h2=>by rw[h1]at h2;cases h2;exact bO.refl x⟩)
 refine aG ME (by simp[OA]) ?_;unfold nL at RH⊢;obtain⟨fin,hfin⟩:∃fin,lM f s [] hs=fin:=⟨_,rfl⟩;rw[hfin];have hlq:=aU 0 t;have hE:∀(o:aT) (J:Heap),KW e (p s::q s::.map (bZ e.by_ 0) e.by_.length::.map (gG e.empty 0) e.empty.length::.cells [.map 2,.map 3] 234::o::J) 2:=fun o J=>⟨rfl,rfl,rfl⟩
 obtain⟨tk,tn,ts,tl⟩:=t;conv=>whnf
 refine hH.any (dx hlq) (.lst _ _ trivial (aV 0 _)) (hE _ _) ?_;conv=>whnf
 intro I hI hG
 have key:∀(d j:Nat) (s1:σ) (acc:List TA) (e':Env),hs.length-j=d→j≤hs.length→acc.length=j→P j s1→lM f s1 acc (hs.drop j)=fin→
   I (fZ e' [(2,.fn (.func g) [] [.ptr 0 0]),(8,.lst (TA.avs acc) (bG acc.length 5)),(15,.lst (TA.avs hs) .none),(16,.int .i64 hs.length),(17,.int .i64 j)])
    [p s1,q s1,.map (bZ e.by_ 0) e.by_.length,.map (gG e.empty 0) e.empty.length,.cells [.map 2,.map 3] 234,bB acc.length 175,bX (.mk tk tn ts tl)]:=by
  intro d
  induction d with
  |zero=>
   intro j s1 acc e' hd hj ha hP hf;have hjl:j=hs.length:=by omega
   rw[hjl,List.drop_length,lM]at hf;subst hf;apply hI;conv=>whnf
   rw[bW (by omega)];conv=>whnf
   exact⟨_,_,rfl,rfl⟩
  |succ d ihd=>
   intro j s1 acc e' hd hj ha hP hf;have hjl:j<hs.length:=by omega
   rw[List.drop_eq_getElem_cons hjl,lM]at hf;have hget:=oV hjl;have hnt:=hn _ (List.getElem_mem hjl);have hnext:=fun s2 acc2 e2=>ihd (j+1) s2 acc2 e2 (by omega) hjl
   generalize hs[j]=v at hget hf hnt;have hc:=A.call j s1 v hP (by omega) hnt.1 hnt.2;have hx:=A.next j s1 v hP;have hlv:∀x∈[v.av,.ptr 0 0],Low 2 x:=eZ.at ⟨aU _ _,.ptr _ _ (by decide),trivial⟩;generalize f s1 v=r at hc hf hx;obtain⟨r1,s2⟩:=r;dsimp only at hc hf hx;apply hI;obtain⟨vk,vn,vs,vl⟩:=v;conv=>whnf
   rw[dB hjl];conv=>whnf
   refine step_elem (Int.natCast_nonneg _) hget rfl ?_;conv=>whnf
   by_cases hk:vk=4
   ·subst hk
    rw[if_pos (show(TA.mk 4 vn vs vl).kind=4 from rfl)]at hf;subst hf;conv=>whnf
    exact⟨_,_,rfl,rfl⟩
   rw[if_neg (show¬(TA.mk vk vn vs vl).kind=4 from hk)]at hf;rw[show(vk==4)=false from by simpa using hk];conv=>whnf
   refine hc.to rfl hlv (fH.at ⟨A.PE _,A.PD _,trivial⟩) (.tup _ (eZ.at ⟨aU _ _,.bool _,trivial⟩)) (fH.at ⟨A.PE _,A.PD _,trivial⟩) _ rfl ?_
   cases r1 with
   |none=>
    subst hf;conv=>whnf
    exact⟨_,_,rfl,rfl⟩
   |some x=>
    have hf:lM f s2 (acc ++[x]) (hs.drop (j+1))=fin:=hf;have hacc:(TA.avs acc).length=acc.length:=bJ acc;have hnext:=hnext s2 (acc ++[x]);have e1:TA.avs (acc ++[x])=TA.avs acc ++[x.av]:=iA acc [x];have e2:(acc ++[x]).length=(TA.avs acc ++[x.av]).length:=by rw[←e1,bJ]
    have hsz:=fD acc;have hs1:=fD [x];rw[e1,e2]at hnext;rw[←hacc]at ha⊢;have hlo:=aV 7 (acc ++[x]);rw[e1]at hlo;have e3:=e2;rw[List.length_append]at e3;obtain⟨xk,xn,xs,xl⟩:=x;conv=>whnf
    refine dQ (xs:=TA.avs acc) (id:=5) (k:=4) (bytes:=72) (t:=175) hsz hs1 (by rw[bJ];simp;omega) (by rw[bJ];simp;omega) (by simp[TA.avs]) rfl ?_;conv=>whnf
    refine hG.keep [(2,.fn (.func g) [] [.ptr 0 0]),(8,.lst (TA.avs acc ++[(TA.mk xk xn xs xl).av]) (bG (TA.avs acc ++[(TA.mk xk xn xs xl).av]).length 5)),(15,.lst (TA.avs hs) .none),(16,.int .i64 hs.length),(17,.int .i64 (j+1:Nat))]
     [p s2,q s2,.map (bZ e.by_ 0) e.by_.length,.map (gG e.empty 0) e.empty.length,.cells [.map 2,.map 3] 234,bB (TA.avs acc ++[(TA.mk xk xn xs xl).av]).length 175,bX (.mk tk tn ts tl)] (Nat.le_refl 7) rfl ⟨rfl,rfl,rfl,rfl,add1 (by omega),trivial⟩
     ⟨.fn _ _ _ fI (dx (.ptr _ _ (show 0<7 by decide))),.lst _ _ (dJ (show 5<7 by decide)) hlo,.lst _ _ trivial (aV _ _),.int _ _,.int _ _,trivial⟩
     ⟨aI (show 2≤7 by decide) (A.PE _),aI (show 2≤7 by decide) (A.PD _),(RH 7 (by decide)).1,(RH 7 (by decide)).2.1,(RH 7 (by decide)).2.2.1,bA _ _ _,aI (Nat.zero_le _) (dF _),trivial⟩ (hnext _ (by rw[←e2,List.length_append,List.length_singleton,←hacc,ha]) hx hf)
 exact inv_of [(2,.fn (.func g) [] [.ptr 0 0]),(8,.lst (TA.avs []) (bG ([]:List TA).length 5)),(15,.lst (TA.avs hs) .none),(16,.int .i64 hs.length),(17,.int .i64 (0:Nat))] ⟨rfl,rfl,rfl,by show au.int .i64 ((TA.avs hs).length:Nat)=_;rw[bJ],rfl,trivial⟩ (key hs.length 0 s [] _ rfl (Nat.zero_le _) rfl h0 hfin)
end Go.Ag
/- Package parts: Field; package types: Alike. -/
namespace Go.Ag
open Go
variable {T : Tab} {L : Lnk}
structure wN (T:Tab):Prop extends zD T where
 Xd:T.has 156 Ux
 Qf:T.has 158 OD
 ME:T.has 195 OA
 WS:T.has 196 Ul
 Qe:T.has 197 Oz
 MC:T.has 198 Oy
 JZ:T.has 234 KG
 JY:T.has 235 KF
 En:T.has 267 FZ
theorem Km (MC:T.has 198 Oy):Pure T.L 198 [] dG.av:=by
 refine Pure.run fI (aU _ _) (aG MC (by simp[Oy]) ?_);conv=>whnf
 exact⟨_,rfl,Weak.agg ⟨Weak.refl _,Weak.refl _,Weak.tok _ _,Weak.tok _ _,trivial⟩⟩
theorem J9 (F:wN T) (nm:Bytes) {y:TA} (hy:NT y) (hw:wtT y≤2^30) {q:aT} (hq:bC 2 q):
  dX T.L 196 [y.av,.ptr 0 0] [.cells [.str nm] 10,q] (.tup [((cZ nm y).getD jA).av,.bool (cZ nm y).isSome]) [.cells [.str nm] 10,q]:=by
 refine dX.of 0 rfl (.tup _ (eZ.at ⟨aU _ _,.bool _,trivial⟩)) (fH.at ⟨dZ ⟨.str _,trivial⟩,hq,trivial⟩)
  (aC.mono (Q:=fun r H'=>∃x J,r=.ret x∧Weak T.L x (.tup [((cZ nm y).getD jA).av,.bool (cZ nm y).isSome])∧H'=[.cells [.str nm] 10,q] ++J) ?_ fun r H' ⟨x,J,e1,e2,e3⟩=>⟨x,_,J,e1,e2,e3,rfl,fun i x y h1 h2=>by rw[h1]at h2;cases h2;exact bO.refl x⟩)
 have hz:Weak T.L (.tup [.agg [.int .i64 0,.str [],.lst [] .nil,.lst [] .nil],.bool false]) (.tup [jA.av,.bool false]):=Weak.tup ⟨Weak.agg ⟨Weak.refl _,Weak.refl _,Weak.tok _ _,Weak.tok _ _,trivial⟩,Weak.refl _,trivial⟩;obtain⟨yk,yn,ys,yl⟩:=y;refine aG F.WS (by simp[Ul]) ?_
 by_cases hk:yk=5
 ·subst hk
  obtain⟨h1,h2⟩:ys.Pairwise (· < ·)∧ys.length=yl.length:=by cases hy;exact⟨‹_›,‹_›⟩
  have hlen:ys.length≤2^40:=by
   have:=Rx ys;rw[wtT]at hw;omega
  have hb:=Ic F.Qe F.JZ F.JY F.En ys nm h1 hlen;have hlo:=NJ ys nm;have hhas:=Jy (nm:=nm) h1
  have hfp:cZ nm (.mk 5 yn ys yl)=if nm∈ys then yl[uw ys nm]? else none:=by
   exact if_pos rfl
  rw[hfp];generalize uw ys nm=lo at hb hlo hhas;conv=>whnf
  refine(hb.weak (args:=[.lst (aJ ys) .none,.str nm]) ⟨Weak.refl _,Weak.refl _,trivial⟩).to ?_
  by_cases hm:nm∈ys
  ·rw[decide_eq_true hm,if_pos hm]
   have hlt:lo<yl.length:=by
    have:=hhas.2 hm;have:=(List.getElem?_eq_some_iff.1 this).1;omega
   have hget:=oV hlt;rw[List.getElem?_eq_getElem hlt];generalize yl[lo]=v at hget;obtain⟨vk,vn,vs,vl⟩:=v;conv=>whnf
   refine step_elem (Int.natCast_nonneg _) hget rfl ?_;conv=>whnf
   exact⟨_,_,rfl,Weak.refl _,rfl⟩
  ·rw[decide_eq_false hm,if_neg hm]
   conv=>whnf
   exact⟨_,_,rfl,hz,rfl⟩
 ·rw[show cZ nm (.mk yk yn ys yl)=none from by unfold cZ;exact if_neg hk]
  conv=>whnf
  rw[show(yk !=5)=true from by simpa using hk];conv=>whnf
  exact⟨_,_,rfl,hz,rfl⟩
theorem SS (F:wN T) (nm:Bytes) (t:TA):M6 (σ:=Unit) T 196 (fun _=>.cells [.str nm] 10) (fun _=>bX t) (fun _ _=>True) (fun _ h=>(cZ nm h,()))where
 PE:=fun _=>dZ ⟨.str _,trivial⟩
 PD:=fun _=>aI (Nat.zero_le _) (dF t)
 call:=fun n s y _ _ hy hw=>J9 F nm hy hw (aI (Nat.zero_le _) (dF t))
 next:=fun _ _ _ _=>trivial
theorem Tf {g:Nat} {p q:aT} {tv y:au} {e:eu} (h:dX L 195 [.ptr 4 0,tv,.fn (.func g) [] [.ptr 0 0]] (p::q::nL e) y (p::q::nL e)) (lp:bC 0 p) (lq:bC 0 q) (lt:Low 0 tv) (ly:Low 0 y) (ap:p.alive=true) (aq:q.alive=true)
  {H:Heap} {a b:Nat} (hab:a≠b) (h3:3≤a) (h4:3≤b) (hE:KW e H 0) (ha:H[a]?=some p) (hb:H[b]?=some q) {K KP:au→Heap→Prop} (hk:K y H):aC L 195 [.ptr 2 0,tv,.fn (.func g) [] [.ptr a 0]] H (dP K KP):=by
 have hp:Part H [a,b,0,1,2] (p::q::nL e):=by
  refine⟨by simp;omega,rfl,fun k i o hk ho=>?_⟩
  match k,hk,ho with
  |0,hk,ho=>cases hk;cases ho;rw[dD lp];exact ha
  |1,hk,ho=>cases hk;cases ho;rw[dD lq];exact hb
  |2,hk,ho=>cases hk;cases ho;rw[dD (show bC 0 (.map (bZ e.by_ 0) e.by_.length)from eP 0 _ _)];exact hE.h0
  |3,hk,ho=>cases hk;cases ho;rw[dD (show bC 0 (.map (gG e.empty 0) e.empty.length)from fP 0 _ _)];exact hE.h1
  |4,hk,ho=>cases hk;cases ho;exact hE.h2
  |k+5,hk,ho=>cases hk
 have hf:=aC.SF (y':=y) (args':=[.ptr 2 0,tv,.fn (.func g) [] [.ptr a 0]]) h (fun o ho=>by
  simp only[nL,List.mem_cons,List.not_mem_nil,or_false]at ho
  rcases ho with rfl|rfl|rfl|rfl|rfl<;>first|exact ap|exact aq|rfl) [a,b,0,1,2] hp (by
  rw[List.map_cons,List.map_cons,jo lt];rfl) (jo ly)
 exact hf.to1 hk
theorem XP {part:TA→Option TA} (hp:∀h t,part h=some t→t∈h.l) {hs:List TA} (hn:∀h∈hs,NT h) (hw:wtL hs≤2^26):okN (.mk 7 [] [] (hs.filterMap part)):=by
 have hm:∀t∈hs.filterMap part,NT t:=fun t ht=>by
  obtain⟨h,hh,he⟩:=List.mem_filterMap.1 ht;exact(hn h hh).parts t (hp h t he)
 have key:∀l:List TA,wtL (l.filterMap part)≤wtL l:=fun l=>by
  induction l with
  |nil=>exact Nat.le_refl _
  |cons h l ih=>
   rw[List.filterMap_cons]
   cases hx:part h with
   |none=>rw[wtL];simp only;omega
   |some t=>
    have h1:=gW (hp h t hx);have h2:=BX h;simp only[wtL];omega
 have hl:∀l:List TA,l.length≤wtL l:=fun l=>by
  induction l with
  |nil=>exact Nat.le_refl _
  |cons h l ih=>rw[wtL,List.length_cons];omega
 have h1:=key hs;have h2:=hl (hs.filterMap part);have h3:=hl (aP (hs.filterMap part));have h4:=Gg (hs.filterMap part);exact Jq hm (by omega) (fun t ht=>by have:=gW ht;omega) (by omega)
theorem SV (nm:Bytes) (h t:TA) (he:cZ nm h=some t):t∈h.l:=by
 unfold cZ at he;split at he
 ·split at he
  ·exact List.mem_of_getElem? he
  ·cases he
 ·cases he
theorem l7 (F:wN T) {by_:List (Bytes×TA)} {e:eu} {C:List TA} (W:lC by_ e C) {t:TA} (ht:GC' C t) (hw:wtL (hdE e t)≤2^26) (nm:Bytes):
  EK T.L 156 [t.av,.str nm] e (.tup [(gives (cZ nm) (hdE e t)).1.av,.int .i64 (gives (cZ nm) (hdE e t)).2]):=by
 have hn:∀h∈hdE e t,NT h∧wtT h≤2^30:=fun h hh=>W.Hr ht hh
 have hE:=FN F.ME (SS F nm t) (W.Dk F.toyj ht) hn (Sm W ht) () trivial;rw[DK (part:=cZ nm) fun _ _=>rfl]at hE;have hd:=W.Sl ht
 have hJ:(gB (cZ nm) [] (hdE e t)).2=0→okN (.mk 7 [] [] (gB (cZ nm) [] (hdE e t)).1):=fun h0=>by
  rcases Classical.em (dG∈hdE e t)with h|h
  ·rw[Sn W ht h]at h0;cases h0
  ·have k4:∀h∈hdE e t,h.kind≠4:=fun x hx h4=>h (by rw[←(hd.1 x hx).1.Ac h4];exact hx)
   by_cases hp:∃h∈hdE e t,cZ nm h=none
   ·rw[y8 _ _ k4 hp]at h0;cases h0
   ·rw[wF _ _ k4 fun x hx=>by
     cases hq:cZ nm x with
     |none=>exact absurd ⟨x,hx,hq⟩ hp
     |some _=>rfl]
    exact XP (SV nm) (fun h hh=>(hn h hh).1) hw
 have hJ:=fun h=>Ak F.tovJ _ (hJ h)
 unfold gives;generalize gB (cZ nm) [] (hdE e t)=r at hE hJ;obtain⟨l,how⟩:=r;dsimp only at hE hJ⊢;have hdy:=Km F.MC;have lt:=aU 0 t;have hEA:∀J,KW e (iE e ++J) 0:=fun J=>⟨rfl,rfl,rfl⟩
 have hR:=fun{H:Heap} {a b:Nat} hab h3 h4 hE' ha hb {K KP:au→Heap→Prop} hk=>Tf (L:=T.L) (H:=H) (a:=a) (b:=b) (K:=K) (KP:=KP) hE (dZ ⟨.str _,trivial⟩) (dF t) lt (.tup _ (eZ.at ⟨.lst _ _ trivial (aV _ _),.int _ _,trivial⟩)) rfl (by obtain⟨a,b,c,d⟩:=t;rfl) hab h3 h4 hE' ha hb hk
 refine EK.of 0 (.tup _ (eZ.at ⟨aU _ _,.int _ _,trivial⟩)) (aG F.Xd (by simp[Ux]) ?_);clear hE;obtain⟨tk,tn,ts,tl⟩:=t;conv=>whnf
 refine hR (a:=4) (b:=3) (by decide) (by decide) (by decide) (hEA _) rfl rfl ?_
 by_cases h0:how=0
 ·subst h0
  rw[if_pos rfl];have hJ:=hJ rfl;generalize jr l=u at hJ;obtain⟨uk,un,us,ul⟩:=u;conv=>whnf
  refine hJ.to ?_;conv=>whnf
  exact⟨_,_,rfl,Weak.refl _,rfl⟩
 ·rw[if_neg h0]
  conv=>whnf
  rw[show((how:Int) !=0)=true from by simpa using h0];conv=>whnf
  refine hdy.to ?_;conv=>whnf
  exact⟨_,_,rfl,Weak.refl _,rfl⟩
end Go.Ag
/- cupelref05.TypeOf, cupellaw07.Parsed, cupellaw09.Made. -/
namespace Go.Ag
open Go
variable {T : Tab} {L : Lnk}
structure UR (T:Tab):Prop extends UY T where
 WA:T.has 233 TW
theorem Iz (F:UR T) (src:Bytes) (hs:src.length≤2^31):Pure T.L 233 [.str src] (.tup [(je src).1.av,.bool (je src).2]):=by
 refine Pure.LA 1 (dx (.str _)) (.tup _ (eZ.at ⟨aU _ _,.bool _,trivial⟩)) (aG F.WA (by simp[TW]) ?_);have hR:=je.eq_1 src;unfold Ey uh at hR;generalize je src=R at hR⊢;conv=>whnf
 refine F.toUY.of src (by omega) _ rfl ?_;conv=>whnf
 have hok:=(mM src (by omega)).1;have hq:=(Cb F.toug (lD src)).type 1 (bE src) hok (by omega) (Nat.le_refl _);have hle:=(bL (lD src)).1 1 (bE src) hok;obtain⟨q,hqe⟩:∃q,bI (lD src) 1 (bE src)=q:=⟨_,rfl⟩;rw[hqe]at hq hle hR;obtain⟨⟨a1,a2,a3,a4⟩,s⟩:=q;dsimp only at hq hle hR;have hs':=hok.of hle;refine hq.to2 (dx (.int _ _)) (aU _ _) _ _ rfl ?_;conv=>whnf
 have e0:(s.diags.map bM.av).length=s.diags.length:=by simp
 cases hb:s.bad
 ·conv=>whnf
  refine jO hs' ?_;conv=>whnf
  refine⟨Nat.zero_le _,?_⟩;conv=>whnf
  cases hk:(s.tok.kind !=6)
  ·have hk6:(s.tok.kind==6)=true:=by simpa[bne]using hk
   conv=>whnf
   rw[e0];cases hd:decide (((s.diags.length:Nat):Int)>0)
   ·have h0:(s.diags.length==0)=true:=by simp at hd⊢;exact hd
    rw[hb,hk6,h0]at hR;have hR:R=(TA.mk a1 a2 a3 a4,true):=hR;subst hR;conv=>whnf
    exact aH (Weak.refl _)
   ·have h0:(s.diags.length==0)=false:=by
     have:=of_decide_eq_true hd;simp;intro h;rw[h]at this;exact absurd this (by decide)
    rw[hb,hk6,h0,if_neg (by simp)]at hR;subst hR;conv=>whnf
    exact aH (Weak.tup ⟨iy,Weak.refl _,trivial⟩)
  ·have hk6:(s.tok.kind==6)=false:=by simpa[bne]using hk
   rw[hb,hk6,if_neg (by simp)]at hR;subst hR;conv=>whnf
   exact aH (Weak.tup ⟨iy,Weak.refl _,trivial⟩)
 ·rw[hb,if_neg (by simp)]at hR
  subst hR;conv=>whnf
  exact aH (Weak.tup ⟨iy,Weak.refl _,trivial⟩)
def qO (s:Bytes):Bool:=decide (s.length≤600)&&(je s).2
def iF (l:List Bytes):List TA:=if l.all qO then l.map fun s=>(je s).1 else[]
structure UU (T:Tab):Prop extends UR T,zx T where
 WT:T.has 194 Um
theorem Bj (F:UU T) (l:List Bytes) (hl:l.length≤2^20):Pure T.L 194 [.lst (aJ l) .none] (.tup [.lst (TA.avs (iF l)) .none,.lst (TA.avs (iF l)) .none,.bool (l.all qO&&decide (l.length≤12))]):=by
 refine Pure.LA 2 (dx (dW _ _ _ trivial)) (.tup _ (eZ.at ⟨.lst _ _ trivial (aV _ _),.lst _ _ trivial (aV _ _),.bool _,trivial⟩)) (aG F.WT (by simp[Um]) ?_);have hLen:(aJ l).length=l.length:=by simp[aJ]
 obtain⟨res,hres⟩:∃res,au.tup [.lst (TA.avs (iF l)) .none,.lst (TA.avs (iF l)) .none,.bool (l.all qO&&decide (l.length≤12))]=res:=⟨_,rfl⟩;rw[hres]
 have hno:∀s∈l,qO s=false→Weak T.L (.tup [.lst [] .nil,.lst [] .nil,.bool false]) res:=fun s hs h=>by
  have:l.all qO=false:=by
   rw[List.all_eq_false];exact⟨s,hs,by rw[h];decide⟩
  unfold iF at hres;rw[this]at hres;subst hres;exact Weak.tup ⟨Weak.tok _ _,Weak.tok _ _,Weak.refl _,trivial⟩
 conv=>whnf
 intro I hI hG
 have key:∀(d j:Nat) (e:Env),l.length-j=d→j≤l.length→(∀s∈l.take j,qO s=true)→
   I (fZ e [(0,.lst (aJ l) .none),(5,.lst (TA.avs ((l.take j).map fun s=>(je s).1)) (bG ((l.take j).map fun s=>(je s).1).length 0)),(6,.lst (TA.avs ((l.take j).map fun s=>(je s).1)) (bG ((l.take j).map fun s=>(je s).1).length 1)),(7,.int .i64 j)])
    [bB ((l.take j).map fun s=>(je s).1).length 175,bB ((l.take j).map fun s=>(je s).1).length 109]:=by
  intro d
  induction d with
  |zero=>
   intro j e hd hj ha;have hjl:j=l.length:=by omega
   subst hjl;rw[List.take_length]at ha⊢;have hall:l.all qO=true:=List.all_eq_true.2 ha;unfold iF at hres;rw[hall]at hres;have hres:au.tup [.lst (TA.avs (l.map fun s=>(je s).1)) .none,.lst (TA.avs (l.map fun s=>(je s).1)) .none,.bool (decide (l.length≤12))]=res:=hres;generalize l.map (fun s=>(je s).1)=ts at hres⊢;apply hI;conv=>whnf
   rw[hLen,show decide (((l.length:Nat):Int)<((l.length:Nat):Int))=false from decide_eq_false (by omega)];conv=>whnf
   rw[hLen,←hres];refine⟨_,rfl,Weak.tup ⟨Weak.tok _ _,Weak.tok _ _,?_,trivial⟩⟩;rw[show decide (((l.length:Nat):Int)≤12)=decide (l.length≤12)from decide_eq_decide.2 (by omega)];exact Weak.refl _
  |succ d ihd=>
   intro j e hd hj ha;have hjl:j<l.length:=by omega
   have hget:(aJ l)[((j:Nat):Int).toNat]?=some (.str l[j]):=by
    rw[Int.toNat_natCast];simp[aJ,List.getElem?_map,List.getElem?_eq_getElem hjl]
   have hnext:=fun e h=>ihd (j+1) e (by omega) hjl h
   have hm:=List.getElem_mem hjl;rw[List.take_succ_eq_append_getElem hjl,List.map_append,List.map_singleton]at hnext;have hn2:=fun(h:qO l[j]=true) e=>hnext e fun s hs=>(List.mem_append.1 hs).elim (ha s) fun h'=>by rw[List.mem_singleton]at h';rw[h'];exact h
   clear hnext;have hno:=hno _ hm;have hacc:((l.take j).map fun s=>(je s).1).length=j:=by rw[List.length_map,List.length_take];omega
   generalize (l.take j).map (fun s=>(je s).1)=acc at hn2 hacc⊢;generalize l[j]=s at hget hn2 hno;have h1:s.length≤600→_:=fun h=>F9 F.tozx s (by omega)
   have h2:s.length≤600→_:=fun h=>Iz F.toUR s (by omega)
   unfold qO at hn2 hno;apply hI;conv=>whnf
   rw[hLen,dB hjl];conv=>whnf
   refine step_elem (Int.natCast_nonneg _) hget rfl ?_;conv=>whnf
   by_cases V3:s.length≤600
   case neg=>
    rw[show decide (((s.length:Nat):Int)>600)=true from decide_eq_true (by omega)];conv=>whnf
    exact⟨_,rfl,hno (by rw[decide_eq_false V3];rfl)⟩
   rw[show decide (((s.length:Nat):Int)>600)=false from decide_eq_false (by omega)];have h1:=h1 V3;have h2:=h2 V3;rw[decide_eq_true V3]at hn2 hno;generalize je s=r at h1 h2 hn2 hno;obtain⟨x,b⟩:=r;dsimp only at h1 h2 hn2 hno;rw[Bool.true_and]at hn2 hno;have e1:TA.avs (acc ++[x])=TA.avs acc ++[x.av]:=iA acc [x];have e2:(acc ++[x]).length=(TA.avs acc ++[x.av]).length:=by rw[←e1,bJ]
   have hsz:=fD acc;have hs1:=fD [x];rw[e1,e2]at hn2;have hla:(TA.avs acc).length=acc.length:=bJ acc;rw[←hla]at hacc⊢;have hlo:=aV 2 (acc ++[x]);rw[e1]at hlo;obtain⟨xk,xn,xs,xl⟩:=x;conv=>whnf
   refine step_elem (Int.natCast_nonneg _) hget rfl ?_;conv=>whnf
   refine h1.to ?_;conv=>whnf
   refine step_elem (Int.natCast_nonneg _) hget rfl ?_;conv=>whnf
   refine h2.to ?_;cases b
   ·conv=>whnf
    exact⟨_,rfl,hno rfl⟩
   conv=>whnf
   refine dQ (xs:=TA.avs acc) (id:=0) (k:=4) (bytes:=72) (t:=175) hsz hs1 (by rw[bJ];simp;omega) (by rw[bJ];simp;omega) (by simp[TA.avs]) rfl ?_;conv=>whnf
   refine dQ (xs:=TA.avs acc) (id:=1) (k:=4) (bytes:=72) (t:=109) hsz hs1 (by rw[bJ];simp;omega) (by rw[bJ];simp;omega) (by simp[TA.avs]) rfl ?_;conv=>whnf
   refine hG.keep [(0,.lst (aJ l) .none),(5,.lst (TA.avs acc ++[(TA.mk xk xn xs xl).av]) (bG (TA.avs acc ++[(TA.mk xk xn xs xl).av]).length 0)),(6,.lst (TA.avs acc ++[(TA.mk xk xn xs xl).av]) (bG (TA.avs acc ++[(TA.mk xk xn xs xl).av]).length 1)),(7,.int .i64 (j+1:Nat))]
    [bB (TA.avs acc ++[(TA.mk xk xn xs xl).av]).length 175,bB (TA.avs acc ++[(TA.mk xk xn xs xl).av]).length 109] (Nat.le_refl 2) rfl ⟨rfl,rfl,rfl,add1 (by omega),trivial⟩
    ⟨dW _ _ _ trivial,.lst _ _ (dJ (show 0<2 by decide)) hlo,.lst _ _ (dJ (show 1<2 by decide)) hlo,.int _ _,trivial⟩ ⟨bA _ _ _,bA _ _ _,trivial⟩ (hn2 rfl _)
 exact inv_of [(0,.lst (aJ l) .none),(5,.lst (TA.avs []) (bG 0 0)),(6,.lst (TA.avs []) (bG 0 1)),(7,.int .i64 (0:Nat))] ⟨rfl,rfl,rfl,rfl,trivial⟩ (key l.length 0 _ rfl (Nat.zero_le _) (fun s hs=>by cases hs))
end Go.Ag
/- cupellaw09.Made. -/
namespace Go.Ag
open Go
variable {T : Tab} {L : Lnk}
structure Ee (T:Tab):Prop extends zB T,UU T where
 Sy:T.has 155 OE
theorem yH {l:List Bytes} {t:TA} (h:t∈iF l):GT t∧wtT t≤2^19:=by
 unfold iF at h;split at h
 ·rename_i ha
  obtain⟨s,hs,rfl⟩:=List.mem_map.1 h;have h1:=List.all_eq_true.1 ha s hs;unfold qO at h1;rw[Bool.and_eq_true,decide_eq_true_eq]at h1;have h2:=Lc s (by omega) h1.2;have:(s.length+82)*(s.length+1)≤682*601:=Nat.mul_le_mul (by omega) (by omega);exact⟨h2.1,by omega⟩
 ·cases h
def sumOf (l:List TA):Nat:=(l.map szT).sum
theorem sz_le (t:TA):szT t≤wtT t:=by
 have:=BK _ t (Nat.le_refl _);show(allT t).length≤_;omega
theorem U2 (F : Ee T) (src : Bytes) (l : List Bytes) (hs : src.length ≤ 600) (hl : l.length ≤ 2 ^ 20) (H : Heap) :
  aC T.L 155 [.str src, .lst (aJ l) .none] H fun r H' => ∃ e o0 o1, mD (jq (gM src)) e ∧ H' = H ++ [o0, o1, .map (bZ e.by_ 0) e.by_.length, .map (gG e.empty 0) e.empty.length, .cells [.map (H.length + 2), .map (H.length + 3)] 234] ∧
   ((l.all qO = true ∧ (gM src).length ≤ 8 ∧ jh (gM src) ≤ 60 ∧ r = .ret (.tup [.ptr (H.length + 4) 0, .lst (gD (gM src)) .none, .lst (TA.avs (iF l)) .none, .lst (TA.avs (iF l)) .none, .bool (decide (sumOf (iF l) ≤ 40))])) ∨
    r = .ret (.tup [.fB, .lst [] .nil, .lst [] .nil, .lst [] .nil, .bool false])) := by
 have hM := XG F.tozB src hs
 have hP := Bj F.toUU l hl
 have hD := sM src hs
 have hDl := Aq src hs
 have hg := fun t (h : t ∈ iF l) => yH h
 have h12 : l.all qO = true → (iF l).length = l.length := fun h => by unfold iF; rw [if_pos h, List.length_map]
 have hSm := M5 F.tozB (gM src) hDl (fun p hp => Nat.le_trans (hD p hp).2.2 (by decide)) .none trivial
 generalize gM src = D at hM hD hDl hSm ⊢
 generalize iF l = ts at hP hg h12 ⊢
 refine aG F.Sy (by simp [OE]) ?_
 have hLen : (TA.avs ts).length = ts.length := bJ ts
 conv => whnf
 refine (hM _).mono fun r H' ⟨e, o0, o1, hok, e1, e2⟩ => ?_
 subst e1
 conv => whnf
 refine hP.to ?_
 conv => whnf
 by_cases h8 : D.length ≤ 8
 case neg =>
  rw [decide_eq_false h8]
  conv => whnf
  exact ⟨e, o0, o1, hok, e2, .inr rfl⟩
 rw [decide_eq_true h8]
 cases ha : (l.all qO && decide (l.length ≤ 12))
 ·conv => whnf
  exact ⟨e, o0, o1, hok, e2, .inr rfl⟩
 rw [Bool.and_eq_true, decide_eq_true_eq] at ha
 conv => whnf
 refine hSm.to ?_
 conv => whnf
 by_cases hz : jh D ≤ 60
 case neg =>
  rw [decide_eq_false hz]
  conv => whnf
  exact ⟨e, o0, o1, hok, e2, .inr rfl⟩
 rw [decide_eq_true hz]
 conv => whnf
 intro I hI hG
 have hsum : ∀ j, j ≤ ts.length → sumOf (ts.take j) ≤ j * 2 ^ 19 := fun j => by
  induction j with
  | zero => intro _; simp [sumOf]
  | succ j ih =>
   intro hj
   have h1 := ih (by omega)
   have h2 := sz_le ts[j]
   have h3 := (hg _ (List.getElem_mem (show j < ts.length by omega))).2
   unfold sumOf at h1 ⊢
   rw [List.take_succ_eq_append_getElem (by omega), List.map_append, List.sum_append_nat, List.map_singleton, List.sum_singleton]
   omega
 have hts : ts.length ≤ 12 := by rw [h12 ha.1]; exact ha.2
 have key : ∀ (d j : Nat) (e' : Env), ts.length - j = d → j ≤ ts.length →
   I (fZ e' [(9, .ptr (H.length + 4) 0), (10, .lst (gD D) .none), (12, .lst (TA.avs ts) .none), (13, .lst (TA.avs ts) .none), (15, .int .i64 (sumOf (ts.take j) : Nat)), (16, .int .i64 j)]) H' := by
  intro d
  induction d with
  | zero =>
   intro j e' hd hj
   have hjl : j = ts.length := by omega
   subst hjl
   rw [List.take_length]
   apply hI
   conv => whnf
   rw [hLen, show decide (((ts.length : Nat) : Int) < ((ts.length : Nat) : Int)) = false from decide_eq_false (by omega)]
   conv => whnf
   rw [show decide (((sumOf ts : Nat) : Int) ≤ 40) = decide (sumOf ts ≤ 40) from decide_eq_decide.2 (by omega)]
   exact ⟨e, o0, o1, hok, e2, .inl ⟨ha.1, h8, hz, rfl⟩⟩
  | succ d ihd =>
   intro j e' hd hj
   have hjl : j < ts.length := by omega
   have hget := oV hjl
   have hnext := fun e => ihd (j + 1) e (by omega) hjl
   have hs1 := hsum (j + 1) hjl
   have e3 : sumOf (ts.take (j + 1)) = sumOf (ts.take j) + szT ts[j] := by
    unfold sumOf
    rw [List.take_succ_eq_append_getElem hjl, List.map_append, List.sum_append_nat, List.map_singleton, List.sum_singleton]
   rw [e3] at hnext hs1
   have hwj := (hg _ (List.getElem_mem hjl)).2
   have hc := uM F.J2 _ ts[j] (Nat.lt_succ_self _) (by omega)
   generalize ts[j] = v at hget hc hnext hs1 hwj
   generalize sumOf (ts.take j) = m at hnext hs1 ⊢
   apply hI
   obtain ⟨vk, vn, vs, vl⟩ := v
   conv => whnf
   rw [hLen, dB hjl]
   conv => whnf
   refine step_elem (Int.natCast_nonneg _) hget rfl ?_
   conv => whnf
   refine hc.to ?_
   conv => whnf
   refine inv_of [(9, .ptr (H.length + 4) 0), (10, .lst (gD D) .none), (12, .lst (TA.avs ts) .none), (13, .lst (TA.avs ts) .none), (15, .int .i64 ((m + szT (.mk vk vn vs vl) : Nat) : Int)), (16, .int .i64 (j + 1 : Nat))] ⟨rfl, rfl, rfl, rfl, ?_, add1 (by omega), trivial⟩ (hnext _)
   show au.int .i64 (IntKind.i64.wrap (((m : Nat) : Int) + ((szT (.mk vk vn vs vl) : Nat) : Int))) = _
   rw [IntWalk.i64_in _ (by omega)]
   congr 1
 exact inv_of [(9, .ptr (H.length + 4) 0), (10, .lst (gD D) .none), (12, .lst (TA.avs ts) .none), (13, .lst (TA.avs ts) .none), (15, .int .i64 (0 : Nat)), (16, .int .i64 (0 : Nat))] ⟨rfl, rfl, rfl, rfl, rfl, rfl, trivial⟩ (key ts.length 0 _ rfl (Nat.zero_le _))
theorem M8 (F:Ee T) (src:Bytes) (l:List Bytes) (hs:600<src.length) (hl:l.length≤2^20):Pure T.L 155 [.str src,.lst (aJ l) .none] (.tup [.fB,.lst [] .nil,.lst [] .nil,.lst [] .nil,.bool false]):=by
 have hP:=Bj F.toUU l hl;refine Pure.run (eZ.at ⟨.str _,dW _ _ _ trivial,trivial⟩) (.tup _ (eZ.at ⟨.fB,.lst _ _ trivial fI,.lst _ _ trivial fI,.lst _ _ trivial fI,.bool _,trivial⟩)) (aG F.Sy (by simp[OE]) ?_);conv=>whnf
 refine(QO F.tozB src hs).to ?_;conv=>whnf
 refine hP.to ?_;conv=>whnf
 exact aH (Weak.refl _)
end Go.Ag
/- Package cupellaw10: alive. -/
namespace Go.Ag
open Go
variable {T : Tab} {L : Lnk}
def tR1 :TA:=.mk 5 [] [[97]] [.mk 1 [] [] []]
def tR2 :TA:=.mk 5 [] [[97],[98]] [.mk 2 [] [] [],.mk 1 [] [] []]
theorem X4 :je [123,97,58,32,105,110,116,125,32,124,32,123,97,58,32,98,111,111,108,44,32,98,58,32,105,110,116,125]=(uT tR1 tR2,true):=by kernel_rfl
theorem NA :NT tR1:=.rcd _ _ (by decide) rfl (fun n hn=>by
 rw[List.mem_singleton]at hn;subst hn;exact g97) fun t ht=>by rw[List.mem_singleton]at ht;subst ht;exact .int
theorem Nz :NT tR2:=.rcd _ _ (by decide) rfl (fun n hn=>by
 simp only[List.mem_cons,List.not_mem_nil,or_false]at hn;rcases hn with rfl|rfl
 ·exact g97
 ·exact g98) fun t ht=>by
 simp only[List.mem_cons,List.not_mem_nil,or_false]at ht;rcases ht with rfl|rfl
 ·exact .bool
 ·exact .int
theorem KN {e:eu} {C:List TA} (W:lC [] e C) (hx:GC' C (uT tR1 tR2)):gives (cZ [97]) (hdE e (uT tR1 tR2))=(jr [.mk 2 [] [] [],.mk 1 [] [] []],0)∧gives (cZ [98]) (hdE e (uT tR1 tR2))=(dG,2):=by
 have hj:=Q8 (by_:=[]) (MF NA.gt Nz.gt) (by simp);have h2:∀{P:TA→Prop},(∃t∈[tR1,tR2],P t)↔P tR1∨P tR2:=fun{P}=>by simp
 have s1:∀x,Spr [] tR1 x↔x=tR1:=fun x=>yA (by decide) (by decide)
 have s2:∀x,Spr [] tR2 x↔x=tR2:=fun x=>yA (by decide) (by decide)
 rw[h2,gK NA,gK Nz,s1,s2]at hj;have hn:¬(dG=tR1∨dG=tR2):=by rintro(h|h)<;>exact absurd (congrArg TA.kind h) (by decide)
 have hm:∀x,x∈hdE e (uT tR1 tR2)↔x=tR1∨x=tR2:=fun x=>W.YA hx (fun x=>by
  have:=hj.2 hn x;rw[h2,gK NA,gK Nz,s1,s2]at this
  exact this) (by decide) (by decide)
 have h4:∀h∈hdE e (uT tR1 tR2),h.kind≠4:=fun h hh=>by rcases(hm h).1 hh with rfl|rfl<;>decide
 have f1:cZ [97] tR1=some (.mk 1 [] [] []):=by kernel_rfl
 have f2:cZ [97] tR2=some (.mk 2 [] [] []):=by kernel_rfl
 have f3:cZ [98] tR1=none:=by kernel_rfl
 constructor
 ·rcases FE (part:=cZ [97]) h4 with⟨h,_⟩|⟨_,t,ht,h⟩
  ·rw[h]
   congr 1
   have hmem:∀x,x∈(hdE e (uT tR1 tR2)).filterMap (cZ [97])↔x∈[TA.mk 2 [] [] [],.mk 1 [] [] []]:=fun x=>by
    rw[List.mem_filterMap];simp only[List.mem_cons,List.not_mem_nil,or_false];constructor
    ·rintro⟨h,hh,he⟩
     rcases(hm h).1 hh with rfl|rfl
     ·rw[f1]at he;cases he;exact .inr rfl
     ·rw[f2]at he;cases he;exact .inl rfl
    ·rintro(rfl|rfl)
     ·exact⟨tR2,(hm _).2 (.inr rfl),f2⟩
     ·exact⟨tR1,(hm _).2 (.inl rfl),f1⟩
   have hk:∀t∈[TA.mk 2 [] [] [],.mk 1 [] [] []],NT t∧t.kind≠7:=fun t ht=>by
    simp only[List.mem_cons,List.not_mem_nil,or_false]at ht;rcases ht with rfl|rfl
    ·exact⟨.bool,by decide⟩
    ·exact⟨.int,by decide⟩
   refine Ml (fun t ht=>hk t ((hmem t).1 ht)) hk (fun h0=>?_) (by simp) (hmem _) fun _=>hmem
   have:=(hmem (.mk 2 [] [] [])).2 (by simp);rw[h0]at this;cases this
  ·rcases(hm t).1 ht with rfl|rfl
   ·rw[f1]at h;cases h
   ·rw[f2]at h;cases h
 ·rcases FE (part:=cZ [98]) h4 with⟨_,h⟩|⟨h,_⟩
  ·have:=h tR1 ((hm _).2 (.inl rfl))
   rw[f3]at this;cases this
  ·exact h
theorem NU :NT (.mk 7 [] [] [.mk 2 [] [] [],.mk 1 [] [] []]):=.uni _ (by decide) (fun t ht=>by
  simp only[List.mem_cons,List.not_mem_nil,or_false]at ht;rcases ht with rfl|rfl
  ·exact .bool
  ·exact .int) (fun t ht=>by
  simp only[List.mem_cons,List.not_mem_nil,or_false]at ht
  rcases ht with rfl|rfl<;>exact⟨by decide,by decide⟩) (by
  rw[List.pairwise_cons];refine⟨fun t ht=>?_,List.pairwise_singleton _ _⟩;rw[List.mem_singleton]at ht;subst ht
  rw[sZ,o7];decide)
theorem QM :prT (jr [.mk 2 [] [] [],.mk 1 [] [] []]) 0=[98,111,111,108,32,124,32,105,110,116]:=by
 show prT (aM _) 0=_;rw[gK NU]
 kernel_rfl
theorem Ij (F : wN T) (G : zx T) (Qg : T.has 154 KI) : Pure T.L 154 [] (.bool true) := by
  have hty := F9 G [123, 97, 58, 32, 105, 110, 116, 125, 32, 124, 32, 123, 97, 58, 32, 98, 111, 111, 108, 44, 32, 98, 58, 32, 105, 110, 116, 125] (by decide)
  rw [X4] at hty
  have hw0 : wtT (uT tR1 tR2) ≤ 2 ^ 22 := by decide
  have hs0 : szT (uT tR1 tR2) ≤ 100 := by decide
  have hr : ∀ e, mD (jq []) e → EK T.L 156 [(uT tR1 tR2).av, .str [97]] e (.tup [(jr [.mk 2 [] [] [], .mk 1 [] [] []]).av, .int .i64 0]) ∧ EK T.L 156 [(uT tR1 tR2).av, .str [98]] e (.tup [dG.av, .int .i64 2]) := fun e hok => by
    obtain ⟨C, W, hC, hB⟩ := XT (D := []) (ts := [uT tR1 tR2]) (fun p hp => by cases hp) (by decide) (by decide) (fun t ht => by
      rw [List.mem_singleton] at ht; subst ht
      exact ⟨gt_uT NA.gt Nz.gt, hw0, hs0⟩) (by decide) hok
    have hx := hC _ (List.mem_singleton.2 rfl)
    have hb := hB _ (List.mem_singleton.2 rfl)
    have g := KN W hx
    have r1 := l7 F W hx hb [97]
    have r2 := l7 F W hx hb [98]
    rw [g.1] at r1
    rw [g.2] at r2
    exact ⟨r1, r2⟩
  have hN := fun H => U1 F.tozD [] (by decide) (fun p hp => by cases hp) (fun p hp => by cases hp) .nil H
  have hT := EnvS.Vf F.tovJ (u := jr [.mk 2 [] [] [], .mk 1 [] [] []]) (by show NT (aM _); rw [gK NU]; exact NU) (by show wtT (aM _) ≤ _; rw [gK NU]; decide)
  rw [QM] at hT
  generalize jr [.mk 2 [] [] [], .mk 1 [] [] []] = J at hr hT
  generalize uT tR1 tR2 = U at hty hr
  have lU := aU 0 U
  have lJ := aU 0 J
  refine Pure.run fI (.bool _) (wM Qg (by simp [KI]) ?_)
  show dS T.L KI.body _ [] _
  refine rM (P := fun e H => (∃ a b c, H = [bX U, a, b, c, bX J] ∧ eY e [(1, .ptr 0 0), (2, .bool true), (3, .ptr 4 0), (4, .int .i64 0)]) ∨ (∃ a b c, H = [bX U, bX J, a, b, c] ∧ eY e [(1, .ptr 0 0), (2, .bool true), (3, .ptr 1 0), (4, .int .i64 0)])) 3 _ _ _ (iN _ _ _ _ ?_) fun e1 H1 h1 => ?_
  · obtain ⟨uk, un, us, ul⟩ := U
    obtain ⟨jk, jn, js, jl⟩ := J
    conv => whnf
    refine hty.to ?_
    have hl1 : ∀ x ∈ [(TA.mk uk un us ul).av, .str [97]], Low 0 x := eZ.at ⟨lU, .str _, trivial⟩
    have hl2 : Low 0 (.tup [(TA.mk jk jn js jl).av, .int .i64 0]) := .tup _ (eZ.at ⟨lJ, .int _ _, trivial⟩)
    conv => whnf
    refine ⟨?_, ?_⟩
    iterate 14 all_goals (
      try first
      | exact .inl ⟨_, _, _, rfl, rfl, rfl, rfl, rfl, trivial⟩
      | exact .inr ⟨_, _, _, rfl, rfl, rfl, rfl, rfl, trivial⟩
      | (refine (hN _).mono fun r H' ⟨e, hok, q1, q2⟩ => ?_
         subst q1 q2)
      | refine (hr e hok).1.any hl1 hl2 ⟨rfl, rfl, rfl⟩ ?_
      | refine ⟨?_, ?_⟩
      try (conv => whnf))
  rcases h1 with ⟨a, b, c, rfl, he⟩ | ⟨a, b, c, rfl, he⟩
  all_goals
    refine iN _ _ _ _ ?_
    rw [← sQ he]
    clear he
    obtain ⟨uk, un, us, ul⟩ := U
    obtain ⟨jk, jn, js, jl⟩ := J
    have hl1 : ∀ x ∈ [(TA.mk uk un us ul).av, .str [98]], Low 0 x := eZ.at ⟨lU, .str _, trivial⟩
    have hl2 : Low 0 (.tup [dG.av, .int .i64 2]) := .tup _ (eZ.at ⟨aU _ _, .int _ _, trivial⟩)
    conv => whnf
    refine ⟨?_, ?_⟩
    iterate 18 all_goals (
      try first
      | exact aH (Weak.refl _)
      | (refine (hN _).mono fun r H' ⟨e, hok, q1, q2⟩ => ?_
         subst q1 q2)
      | refine (hr e hok).2.any hl1 hl2 ⟨rfl, rfl, rfl⟩ ?_
      | refine hT.to ?_
      | refine ⟨?_, ?_⟩
      try (conv => whnf))
end Go.Ag
/- Library functions whose contracts are told of the machine: made abstract contracts. -/
namespace Go.Ag
open Go
open Go.RowKit (Below)
variable {L : Lnk}
theorem below_drewN (w:World) (n:Nat):Below w.heap.size w (w.drewN n):=⟨rfl,rfl,rfl,Nat.le_refl _,fun _ _=>rfl⟩
theorem vC {f:Nat} {args:List au} {H:Heap} {x:au}
  (hc:∀g w vs,St L g w H→aX L g vs args→∃v,Rep L g v x∧Calls L.P (L.num f) vs.toArray w fun e w'=>e=.returned v∧Below w.heap.size w w'):
  aC L f args H fun r H'=>r=.ret x∧H'=H:=fun g w vs hs hr=>by
 obtain⟨v,h1,h2⟩:=hc g w vs hs hr;exact h2.mono fun e w' ⟨h3,h4⟩=>⟨.ret x,H,g,⟨rfl,rfl⟩,aA.le.refl g,hs.wider h4,v,h3,h1⟩
theorem Qo {f:Nat} {args:List au} {H:Heap} {x:au}
  (hc:∀g w vs,St L g w H→aX L g vs args→Calls L.P (L.num f) vs.toArray w fun e w'=>(∃v,e=.returned v∧Rep L g v x)∧Below w.heap.size w w'):
  aC L f args H fun r H'=>r=.ret x∧H'=H:=fun g w vs hs hr=>by
 exact(hc g w vs hs hr).mono fun e w' ⟨⟨v,h3,h1⟩,h4⟩=>⟨.ret x,H,g,⟨rfl,rfl⟩,aA.le.refl g,hs.wider h4,v,h3,h1⟩
theorem EM {g:aA} {vs:List Value} {a:au} (h:aX L g vs [a]):∃v,vs=[v]∧Rep L g v a:=by
 cases h with|cons v _ _ _ h hs=>cases hs;exact⟨v,rfl,h⟩
theorem Ja {g:aA} {vs:List Value} {a b:au} (h:aX L g vs [a,b]):∃v u,vs=[v,u]∧Rep L g v a∧Rep L g u b:=by
 cases h with|cons v _ _ _ h hs=>obtain⟨u,rfl,h2⟩:=EM hs;exact⟨v,u,rfl,h,h2⟩
end Go.Ag
/- The library's contracts of the laws: from the machine's to abstract ones. -/
namespace Go.Ag
open Go
open Go.RowKit (Below)
variable {L : Lnk}
theorem XM (c:UInt8):∀(a b:Bytes),c∉a→Lib.index (a ++c::b) [c]=a.length
 |[],b,_=>by simp[Lib.index]
 |x::a,b,h=>by
  simp only[List.mem_cons,not_or]at h;have ih:=XM c a b h.2;simp only[List.cons_append,Lib.index];rw[if_neg (by simp[h.1]),ih,if_neg (by simp<;>omega)];simp
theorem XL (c:UInt8):∀(a:Bytes),c∉a→Lib.index a [c]= -1
 |[],_=>rfl
 |x::a,h=>by
  simp only[List.mem_cons,not_or]at h;simp only[Lib.index];rw[if_neg (by simp[h.1]),XL c a h.2];rfl
theorem DT (c:UInt8):∀s:Bytes,(∃a b,s=a ++c::b∧c∉a∧DU c s=(a,b,true))∨(c∉s∧DU c s=(s,[],false))
 |[]=>.inr ⟨by simp,rfl⟩
 |x::s=>by
  by_cases h:x=c
  ·subst h
   exact .inl ⟨[],s,rfl,by simp,by simp[DU]⟩
  ·rcases DT c s with⟨a,b,rfl,h1,h2⟩|⟨h1,h2⟩
   ·refine .inl ⟨x::a,b,rfl,by simp[Ne.symm h,h1],?_⟩
    simp only[DU,Prod.mk.injEq]at h2⊢;obtain⟨e1,e2,e3⟩:=h2;refine⟨?_,?_,by simp⟩
    ·rw[List.takeWhile_cons,if_pos (by simpa using h),e1]
    ·rw[List.dropWhile_cons,if_pos (by simpa using h),e2]
   ·refine .inr ⟨by simp[Ne.symm h,h1],?_⟩
    simp only[DU,Prod.mk.injEq]at h2⊢;obtain⟨e1,e2,e3⟩:=h2;refine⟨?_,?_,?_⟩
    ·rw[List.takeWhile_cons,if_pos (by simpa using h),e1]
    ·rw[List.dropWhile_cons,if_pos (by simpa using h),e2]
    ·rw[List.any_cons,e3];simpa using h
theorem Xx (c:UInt8) (s:Bytes):Lib.cut s [c]=DU c s:=by
 unfold Lib.cut;rcases DT c s with⟨a,b,rfl,h,e⟩|⟨h,e⟩
 ·rw[XM c a b h,e,if_pos (by omega)]
  simp
 ·rw[XL c s h,e]
  rfl
theorem Dc (sep:Bytes):∀ws:List Bytes,Lib.join ws sep=iR sep ws
 |[]=>rfl
 |[w]=>Lib.join_one w sep
 |w::u::r=>by
  have ih:=Dc sep (u::r);rw[Lib.join_cons]at ih⊢;simp only[iR];rw[←ih];simp[Lib.joinTail]
theorem Cc (s:Bytes):(⟨s.toArray⟩:ByteArray).data.toList=s:=by simp
theorem sizeB (s:Bytes):(⟨s.toArray⟩:ByteArray).size=s.length:=by show s.toArray.size=_;simp
theorem EL {g:aA} {vs:List Value}:∀{l:List Bytes},aX L g vs (aJ l)→vs=l.map fun s=>.string ⟨s.toArray⟩:=fun{l} h=>by
 induction l generalizing vs with
 |nil=>cases h;rfl
 |cons s l ih=>
  simp only[aJ,List.map_cons]at h
  cases h with
  |cons v _ vs _ h hs=>rw[iP h,ih hs];rfl
theorem sU {g:aA}:∀l:List Bytes,aX L g (l.map fun s=>Value.string ⟨s.toArray⟩) (aJ l)
 |[]=>.nil
 |s::l=>.cons _ _ _ _ (.str s) (sU l)
theorem Ci {g:aA} {w:World} {H:Heap} (hs:St L g w H) {v:Value} {l:List Bytes} {tk:Tok} (h:Rep L g v (.lst (aJ l) tk)):
  ∃a c,v=.slice a l.length c∧l.length≤c∧(l≠[]→∃b o,a=some ⟨b,o,none⟩∧b<w.heap.size∧∀(j:Nat) s,l[j]?=some s→w.cell? ⟨b,o+j,none⟩=some (.string ⟨s.toArray⟩)):=by
 obtain⟨a,c,k,b,o,vs,rfl,h1,h2,_,h4,_,h6⟩:=lS h;rw[su]at h6;have hv:=EL h6;have hl:(aJ l).length=l.length:=by simp[aJ]
 rw[hl]at h4⊢;refine⟨a,c,rfl,h4,fun hne=>⟨b,o,h1 (by intro e;apply hne;simpa[aJ]using e),?_,fun j s hj=>?_⟩⟩
 ·obtain⟨s,l',rfl⟩:=List.exists_cons_of_ne_nil hne
  have:=h2 0 (.string ⟨s.toArray⟩) (by rw[hv];rfl);exact hs.Dt this
 ·exact hs.fz b (o+j) _ (h2 j _ (by rw[hv];simp[hj]))
structure mX (L:Lnk)where
 Qk:Nat
 Rl:TypeId
 indexByte:∀(s:ByteArray) (c:Int) (w:World),Calls L.P (L.num 49) #[.string s,.int .u8 c] w fun e w'=>e=.returned (.int .i64 (Lib.indexByte s.data.toList c.toNat.toUInt8))∧w'=w
 cut:∀(s sep:ByteArray) (m:Int) (w:World),s.size<4294967281→w.cell? ⟨Qk,0,none⟩=some (.int .i64 m)→
  Calls L.P (L.num 22) #[.string s,.string sep] w fun e w'=>e=.returned (.tuple #[.string ⟨(Lib.cut s.data.toList sep.data.toList).1.toArray⟩,.string ⟨(Lib.cut s.data.toList sep.data.toList).2.1.toArray⟩,.bool (Lib.cut s.data.toList sep.data.toList).2.2])∧∃n,w'=w.drewN n
 JI:∀(a:Option Addr) (c:Nat) (sep:ByteArray) (w:World),Calls L.P (L.num 20) #[.slice a 0 c,.string sep] w fun e w'=>e=.returned (.string ⟨[].toArray⟩)∧Below w.heap.size w w'
 join:∀(bk o c:Nat) (xs:List ByteArray) (sep:ByteArray) (w:World),(∀(j:Nat) x,xs[j]?=some x→w.cell? ⟨bk,o+j,none⟩=some (.string x))→bk<w.heap.size→xs.length≤140737488355328→xs.length≤c→
  (Lib.join (xs.map (·.data.toList)) sep.data.toList).length≤140737488355328→
  Calls L.P (L.num 20) #[.slice (some ⟨bk,o,none⟩) xs.length c,.string sep] w fun e w'=>e=.returned (.string ⟨(Lib.join (xs.map (·.data.toList)) sep.data.toList).toArray⟩)∧Below w.heap.size w w'
 clone:∀(b off n c:Nat) (zs:List ByteArray) (w:World),n≤zs.length→n*16≤140737488355328→(∀j,j<zs.length→w.cell? ⟨b,off+j,none⟩=some (.string (zs.getD j ByteArray.empty)))→
  Calls L.P (L.num 208) #[.slice (some ⟨b,off,none⟩) n c] w fun e w'=>∃v',e=.returned v'∧w'.ownsRow w.heap.size Rl 1 v' n ((zs.take n).map (Value.string))∧v'≠.slice none 0 0∧Below w.heap.size w w'
 Ky:∀(n c:Nat) (w:World),Calls L.P (L.num 208) #[.slice none n c] w fun e w'=>e=.returned (.slice none 0 0)∧w'=w
 FX:∀(a:Addr) (c:Nat) (w:World),Calls L.P (L.num 208) #[.slice (some a) 0 c] w fun e w'=>∃v',e=.returned v'∧w'.ownsRow w.heap.size Rl 1 v' 0 []∧v'≠.slice none 0 0∧Below w.heap.size w w'
 st:∀w0 base,L.start w0 base→Qk<base∧∃m,w0.cell? ⟨Qk,0,none⟩=some (.int .i64 m)
theorem mX.VW (M:mX L):OP L where
 join:=fun ws sep h1 h2 H=>vC fun g w vs hs hr=>by
  obtain⟨v,u,rfl,r1,r2⟩:=Ja hr;rw[iP r2];obtain⟨a,c,rfl,hc,hcell⟩:=Ci hs r1;refine⟨_,.str _,?_⟩
  cases ws with
  |nil=>exact M.JI a c _ w
  |cons s ws=>
   obtain⟨b,o,rfl,hb,hcell⟩:=hcell (by simp)
   have hmm:((s::ws).map fun s=>(⟨s.toArray⟩:ByteArray)).map (·.data.toList)=s::ws:=by
    rw[List.map_map];exact(List.map_congr_left (g:=id) fun x _=>by simp).trans (List.map_id _)
   have:=M.join b o c ((s::ws).map fun s=>⟨s.toArray⟩) ⟨sep.toArray⟩ w (fun j x hx=>by
    rw[List.getElem?_map]at hx
    cases hj:(s::ws)[j]? with
    |none=>rw[hj]at hx;cases hx
    |some y=>rw[hj]at hx;cases hx;exact hcell j y hj) hb (by simp at h2⊢;omega) (by simpa using hc) (by rw[hmm,Cc,Dc];omega)
   rw[hmm,Cc,Dc]at this;simpa using this
theorem Xr {f : Nat} {args : List au} {H : Heap} {xs : List au} {t : TypeId} (hk : ∀ x ∈ xs, x.cells.length = 1)
  (hc : ∀ g w vs, St L g w H → aX L g vs args → ∃ us, aX L g us (flat xs) ∧
   Calls L.P (L.num f) vs.toArray w fun e w' => ∃ v', e = .returned v' ∧ w'.ownsRow w.heap.size t 1 v' xs.length us ∧ Below w.heap.size w w') :
  aC L f args H fun r H' => r = .ret (.lst xs .none) ∧ H' = H := fun g w vs hs hr => by
 obtain ⟨us, h1, h2⟩ := hc g w vs hs hr
 refine h2.mono fun e w' ⟨v', e1, hown, hb⟩ => ?_
 have hs1 := hs.wider hb
 rcases hown.2 with ⟨rfl, h0⟩ | ⟨gb, cap, cur, rfl, hge, hblk, hcap, _, _, hcells⟩
 ·obtain rfl : xs = [] := List.eq_nil_of_length_eq_zero h0
  exact ⟨.ret (.lst [] .none), H, g, ⟨rfl, rfl⟩, aA.le.refl g, hs1, _, e1, .lst none 0 1 0 0 [] [] .none (fun h => absurd rfl h) (fun j v h => by simp at h) (by simp) (Nat.le_refl 0) trivial .nil⟩
 ·have hul : us.length = xs.length := by have := hown.1; omega
  have hkp : g.kp gb = none := by
   cases hq : g.kp gb with
   | none => rfl
   | some o => have := hs.JF hq; omega
  have hf : ∀ o, 0 ≤ o → o < 0 + us.length → g.fz gb o = none := fun o _ _ => by
   cases hq : g.fz gb o with
   | none => rfl
   | some v => have := hs.Dt hq; omega
  have hle := aA.mP hkp hf
  have h8 : St L (g.iH gb 0 us) w' H := hs1.nJ hkp hf (fun j v hv => by
   rw [Nat.zero_add]
   have h3 : cur.toList[j]? = some v := by
    have h4 : (cur.toList.take (xs.length * 1))[j]? = some v := by rw [hcells]; exact hv
    rw [List.getElem?_take] at h4
    split at h4
    ·exact h4
    ·cases h4
   simp only [World.cell?, hblk, Option.isSome_none, Bool.false_eq_true, if_false]
   simpa using h3) (fun id o s _ _ hq => by have := hs.bnd _ _ _ hq; omega)
  exact ⟨.ret (.lst xs .none), H, _, ⟨rfl, rfl⟩, hle, h8, _, e1, .lst _ _ 1 gb 0 xs us .none (fun _ => rfl) (fun j v hv => aA.oh _ _ _ _ j v hv) hk hcap trivial (h1.mono hle)⟩
theorem mX.MU (M:mX L) (ns:List Bytes) (hn:ns.length≤2^40):Pure L 208 [.lst (aJ ns) .none] (.lst (aJ ns) .none):=fun H=>by
 refine Xr (t:=M.Rl) (fun x hx=>by
  simp only[aJ,List.mem_map]at hx;obtain⟨s,_,rfl⟩:=hx
  rfl) fun g w vs hs hr=>?_
 obtain⟨v,rfl,h⟩:=EM hr;obtain⟨a,c,rfl,hc,hcell⟩:=Ci hs h;have hl:(aJ ns).length=ns.length:=by simp[aJ]
 rw[su,hl];refine⟨_,sU ns,?_⟩
 cases ns with
 |nil=>
  cases a with
  |none=>exact(M.Ky 0 c w).mono fun e w' ⟨e1,e2⟩=>⟨_,e1,⟨rfl,.inl ⟨rfl,rfl⟩⟩,e2▸Below.refl _ _⟩
  |some a=>exact(M.FX a c w).mono fun e w' ⟨v',e1,e2,_,e3⟩=>⟨v',e1,e2,e3⟩
 |cons s ns=>
  obtain⟨b,o,rfl,hb,hcell⟩:=hcell (by simp)
  have h3:=M.clone b o (s::ns).length c ((s::ns).map fun s=>⟨s.toArray⟩) w (by simp) (by omega) (fun j hj=>by
   have hj':j<(s::ns).length:=by simpa using hj
   rw[hcell j (s::ns)[j] (List.getElem?_eq_getElem hj')]
   simp only[List.getD_eq_getElem?_getD,List.getElem?_map,List.getElem?_eq_getElem hj',Option.map_some,Option.getD_some])
  refine h3.mono fun e w' ⟨v',e1,e2,_,e3⟩=>⟨v',e1,?_,e3⟩
  rw[List.take_of_length_le (by simp),List.map_map]at e2;exact e2
theorem ixb (c:UInt8):∀l:Bytes,decide (Lib.indexByte l c≥0)=inA c l
 |[]=>rfl
 |b::l=>by
  have ih:=ixb c l;have hge:=Lib.indexByte_ge l c;unfold inA at ih⊢;rw[List.any_cons,Lib.indexByte,←ih];cases hb:(b==c)
  ·simp only[Bool.false_eq_true,if_false,Bool.false_or]
   by_cases h1:Lib.indexByte l c= -1
   ·rw[h1];rfl
   ·rw[if_neg (by simpa using h1)]
    have:Lib.indexByte l c≥0:=by omega
    rw[decide_eq_true this];exact decide_eq_true (by omega)
  ·simp
theorem mX.lex (M:mX L):U5 L where
 idx:=fun c=>⟨Lib.indexByte kY c,ixb c kY,fun H=>vC fun g w vs hs hr=>by
  obtain⟨v,u,rfl,h1,h2⟩:=Ja hr;rw[iP h1,gH h2];refine⟨_,.int _ _,(M.indexByte _ _ w).mono fun e w' ⟨e1,e2⟩=>⟨?_,e2▸Below.refl _ _⟩⟩;rw[e1,Cc]
  simp⟩
 cut:=fun c s hs0 H=>vC fun g w vs hs hr=>by
  obtain⟨v,u,rfl,h1,h2⟩:=Ja hr;rw[iP h1,iP h2];obtain⟨q1,m,q2⟩:=M.st _ _ hs.fact;have hm:w.cell? ⟨M.Qk,0,none⟩=some (.int .i64 m):=(hs.below.cell (p:=⟨M.Qk,0,none⟩) q1).trans q2;refine⟨_,.tup [_,_,_] _ (.cons _ _ _ _ (.str _) (.cons _ _ _ _ (.str _) (.cons _ _ _ _ (.bool _) .nil))),(M.cut _ _ m w (by rw[sizeB];omega) hm).mono fun e w' ⟨e1,n,e2⟩=>⟨?_,e2▸below_drewN _ _⟩⟩;rw[e1,Cc,Cc,Xx]
end Go.Ag
/- The library's sorts: what they do to a row. -/
namespace Go.Ag
open Go Go.Sort Go.Proofs
open Go.RowKit (Below)
variable {L : Lnk} {g : aA} {w : World} {H : Heap}
theorem I8 (hs:St L g w H) {id v t k:Nat} {xs ys:List au} {s:jU} {cur cur':Array Value} {w':World} (hH:H[id]?=some (.arr v xs t)) (hs':g.ob id v=some s) (hsk:s.k=k)
  (hcur:w.heap[s.b]?=some (.cells cur (L.ty t) (0,0))) (hcur':w'.heap[s.b]?=some (.cells cur' (L.ty t) (0,0))) (hsize:cur'.size=cur.size) (hy:∀y∈ys,y.cells.length=k) (hlen:ys.length=xs.length)
  (hother:∀b,b≠s.b→b<w.heap.size→w'.heap[b]?=w.heap[b]?) (hsz:w.heap.size≤w'.heap.size) (hos:w'.os=w.os) (htp:w'.tape=w.tape) (hout:w'.output=w.output)
  (hrep:aX L g (cur'.toList.take (ys.length*k)) (flat ys)):St L g w' (H.set id (.arr v ys t)):=by
 obtain⟨s0,cur0,e1,e0,e2,e3,e4,e5,e6,e7,e8,e9,e10⟩:=hs.obj id _ hH;rw[hs']at e1;cases e1;rw[hcur]at e4;cases e4
 exact hs.K9 (s1:=s) hH rfl hs' (aA.le.refl g) rfl rfl rfl (fun _ _ _=>rfl) (fun _ s2 h2=>.inl h2) (fun _=>hs') (.inl rfl) (Nat.lt_of_lt_of_le (hs.bnd _ _ _ hs') hsz) e9 (by rw[hcur];simp)
  hother hsz hos htp hout
  ⟨s,cur',hs',e0,e2,e3,hcur',hsize.trans e5,fun x hx=>by rw[hsk];exact hy x hx,by rw[hlen];exact e7,by rw[hsk];exact hrep,e9,e10⟩
theorem J3 {w:World} {blk n:Nat} {f:Array Value→Array Value} {os:Array Obj} {cur:Array Value} {t:TypeId} (h:w.heap[blk]?=some (.cells cur t (0,0))):
  (grow (mapBlock (Sort.ahead w n) blk f) os).heap[blk]?=some (.cells (f cur) t (0,0)):=by
 have hlt:blk<w.heap.size:=(Array.getElem?_eq_some_iff.1 h).1;show(w.heap.modify blk (onCells f) ++os)[blk]?=_;rw[Array.getElem?_append_left (by simpa using hlt),Array.getElem?_modify,if_pos rfl,h];rfl
theorem FB {w:World} {blk n b:Nat} {f:Array Value→Array Value} {os:Array Obj} (hb:b≠blk) (hlt:b<w.heap.size):
  (grow (mapBlock (Sort.ahead w n) blk f) os).heap[b]?=w.heap[b]?:=by
 show(w.heap.modify blk (onCells f) ++os)[b]?=_;rw[Array.getElem?_append_left (by simpa using hlt),Array.getElem?_modify,if_neg (Ne.symm hb)]
theorem Dq {w:World} {blk n:Nat} {f:Array Value→Array Value} {os:Array Obj}:w.heap.size≤(grow (mapBlock (Sort.ahead w n) blk f) os).heap.size:=by
 show w.heap.size≤(w.heap.modify blk (onCells f) ++os).size;rw[Array.size_append,Array.size_modify];omega
theorem w9 {α:Type} [Inhabited α] (enc:α→Value) (d:Array α) (c:Array Value) (off:Nat):(putCells enc off d c).size=c.size:=by simp[putCells]
theorem wZ {α:Type} [Inhabited α] (enc:α→Value) (d:Array α) (c:Array Value) (h:d.size≤c.size):(putCells enc 0 d c).toList.take d.size=d.toList.map enc:=by
 apply List.ext_getElem?;intro j;rw[List.getElem?_take];split
 ·rename_i hj
  simp only[putCells,Array.getElem?_toList,List.getElem?_map,Array.getElem?_mapIdx];rw[Array.getElem?_eq_getElem (by omega),Array.getElem?_eq_getElem hj];simp[hj]
 ·rename_i hj
  rw[List.getElem?_eq_none (by simp;omega)]
structure Ai (L:Lnk):Prop where
 sort:∀(blk off cap:Nat) (ss:List Bytes) (w:World),Holds encStr w blk off ss.toArray→blk<w.heap.size→ss.length<4611686018427387904→
  Calls L.P (L.num 200) #[.slice (some ⟨blk,off,none⟩) ss.length cap] w fun e w'=>
   e=.returned (.tuple #[])∧∃n os,w'=grow (putRow encStr (Sort.ahead w n) blk off (ss.mergeSort fun x y=>decide (x≤y)).toArray) os
 none:∀(p:Option Addr) (cap:Nat) (w:World),Calls L.P (L.num 200) #[.slice p 0 cap] w fun e w'=>e=.returned (.tuple #[])∧w'=w
theorem Ai.par (M:Ai L):Im L where
 Cq:=fun H=>vC fun g w vs hs hr=>by
  obtain⟨v,rfl,h⟩:=EM hr;obtain⟨a,c,k,b,o,vs,rfl,_⟩:=lS h;exact⟨_,.tup [] [] .nil,(M.none a c w).mono fun e w' ⟨e1,e2⟩=>⟨e1,e2▸Below.refl _ _⟩⟩
 sort:=fun l n id t H hH hn hne hl g w vs hs hr=>by
  obtain⟨v,rfl,h⟩:=EM hr
  cases h with
  |vec _ _ _ _ _ c s hs' hsk hc hz=>
   obtain⟨s0,cur,e1,e0,e2,e3,e4,e5,e6,e7,e8,e9,e10⟩:=hs.obj id _ hH;rw[hs']at e1;cases e1;have hll:(aJ l).length=l.length:=by simp[aJ]
   rw[hsk,Nat.mul_one,hll]at e7 e8;rw[su]at e8;have hcells:=EL e8
   have Sg:Holds encStr w s.b 0 l.toArray:=fun j hj=>by
    have hj':j<l.length:=by simpa using hj
    have h3:cur.toList[j]?=some (.string ⟨l[j].toArray⟩):=by
     have:(cur.toList.take l.length)[j]?=some (.string ⟨l[j].toArray⟩):=by rw[hcells];simp[hj']
     rw[List.getElem?_take,if_pos hj']at this;exact this
    rw[Nat.zero_add];refine⟨?_,by simp[World.frozen?,e4]⟩;simp only[World.cell?,e4,Option.isSome_none,Bool.false_eq_true,if_false];rw[←Array.getElem?_toList,h3];simp[encStr,hj']
   have hcall:=M.sort s.b 0 c l w Sg (hs.bnd _ _ _ hs') (by omega);rw[hn];refine hcall.mono fun e w' ⟨he,m,os,hw⟩=>?_
   have hpl:(mY l).length=l.length:=(sO l).length_eq
   have hst:St L g w' (H.set id (.arr n (aJ (mY l)) t)):=by
    rw[hw];refine I8 hs hH hs' hsk e4 (J3 e4) (w9 _ _ _ _) (fun y hy=>?_) (by simp[aJ,hpl]) (fun b hb hlt=>FB hb hlt) Dq rfl rfl rfl ?_
    ·simp only[aJ,List.mem_map]at hy
     obtain⟨s,_,rfl⟩:=hy;rfl
    ·rw[su,Nat.mul_one]
     have h5:=wZ encStr (mY l).toArray cur (by simp[hpl];omega);have h6:(mY l).toArray.size=(aJ (mY l)).length:=by simp[aJ]
     rw[h6]at h5;show aX L g ((putCells encStr 0 (mY l).toArray cur).toList.take _) _;rw[h5];exact sU _
   exact⟨.ret (.tup []),H.set id (.arr l.length (aJ (mY l)) t),g,⟨rfl,rfl⟩,aA.le.refl g,hn▸hst,_,he,.tup [] [] .nil⟩
end Go.Ag
/- The library's sort of keyed types by a comparing function: what it does to a row. -/
namespace Go.Ag
open Go Go.Sort Go.Proofs
open Go.RowKit (Below)
variable {L : Lnk} {g : aA} {w : World} {H : Heap}
def KV :Type:={q:List Value×Bytes//q.1.length=4∧∀v∈q.1,v.oneCell'=true}
instance : Inhabited KV := ⟨⟨([.bool false, .bool false, .bool false, .bool false], []), rfl, fun v hv => by simp at hv; subst hv; rfl⟩⟩
def ru (x:KV):List Value:=x.1.1 ++[.string ⟨x.1.2.toArray⟩]
theorem DI (x:KV):(ru x).length=5:=by simp[ru,x.2.1]
theorem Te (x:KV):∀v∈ru x,v.oneCell'=true:=fun v hv=>by
 rcases List.mem_append.1 hv with hv|hv
 ·exact x.2.2 v hv
 ·simp only[List.mem_singleton]at hv;subst hv;rfl
theorem Dw {α:Type} [Inhabited α] {enc:α→List Value} {k:Nat} (hk:∀x,(enc x).length=k):∀(l:List α) (j:Nat),j<l.length*k→(l.flatMap enc)[j]?=some ((enc (l[j/k]!))[j%k]!)
 |[],j,h=>by simp at h
 |x::l,j,h=>by
  have h0:0<k:=by
   rcases Nat.eq_zero_or_pos k with h'|h'
   ·subst h';simp at h
   ·exact h'
  rw[List.flatMap_cons];rcases Nat.lt_or_ge j k with hj|hj
  ·rw[List.getElem?_append_left (by rw[hk];exact hj),Nat.div_eq_of_lt hj,Nat.mod_eq_of_lt hj,List.getElem?_eq_getElem (by rw[hk];exact hj)]
   simp[hk,hj]
  ·rw[List.getElem?_append_right (by rw[hk];exact hj),hk]
   have h1:j-k<l.length*k:=by rw[List.length_cons,Nat.add_mul]at h;omega
   rw[Dw hk l (j-k) h1];have h2:j/k=(j-k)/k+1:=by rw[←Nat.sub_add_cancel hj,Nat.add_div_right _ h0];simp
   have h3:j%k=(j-k)%k:=by rw[Nat.mod_eq_sub_mod hj]
   rw[h2,h3];rfl
theorem Dx {α:Type} [Inhabited α] {enc:α→List Value} {k:Nat} (hk:∀x,(enc x).length=k) (d:Array α):(flatK enc k d).toList=d.toList.flatMap enc:=by
 have hl:(d.toList.flatMap enc).length=d.size*k:=by
  rw[List.length_flatMap,show d.toList.map (fun x=>(enc x).length)=d.toList.map fun _=>k from List.map_congr_left fun x _=>hk x,List.map_const',List.sum_replicate_nat,Array.length_toList]
 apply List.ext_getElem?;intro j;rcases Nat.lt_or_ge j (d.size*k)with hj|hj
 ·rw[Dw hk d.toList j (by simpa using hj)]
  rw[Array.getElem?_toList,Array.getElem?_eq_getElem (by simpa using hj)];have:=get_flatK enc k d j hj;rw[getElem!_pos _ j (by simpa using hj)]at this;rw[this];simp
  congr 2
  rw[getElem!_def];cases d[j/k]?<;>rfl
 ·rw[List.getElem?_eq_none (by simpa using hj),List.getElem?_eq_none (by rw[hl];exact hj)]
theorem EU {α β:Type} {f:α→β}:∀{l:List β} {zs:List α},(zs.map f).Perm l→∃zs',zs.Perm zs'∧zs'.map f=l
 |[],zs,h=>by
  have:zs=[]:=by simpa using h.eq_nil
  subst this;exact⟨[],.refl _,rfl⟩
 |y::l,zs,h=>by
  have hy:y∈zs.map f:=h.symm.subset List.mem_cons_self;obtain⟨z,hz,rfl⟩:=List.mem_map.1 hy;obtain⟨s,t,rfl⟩:=List.append_of_mem hz
  have h1:((s ++z::t).map f).Perm (f z::(s ++t).map f):=by
   simp only[List.map_append,List.map_cons];exact List.perm_middle
  have h2:((s ++t).map f).Perm l:=List.Perm.cons_inv (h1.symm.trans h);obtain⟨zs',e1,e2⟩:=EU h2;exact⟨z::zs',List.perm_middle.trans (e1.cons z),by rw[List.map_cons,e2]⟩
theorem PS {us:List Value}:∀{xs:List (TA×Bytes)},aX L g us (flat (kvs xs))→∃zs:List (KV×(TA×Bytes)),zs.map (·.2)=xs∧us=(zs.map (·.1)).flatMap ru∧∀z∈zs,aX L g (ru z.1) (JH z.2)∧z.1.1.2=z.2.2:=fun{xs} h=>by
 induction xs generalizing us with
 |nil=>cases h;exact⟨[],rfl,rfl,fun z hz=>by cases hz⟩
 |cons p xs ih=>
  obtain⟨⟨k,nm,ns,l⟩,s⟩:=p;rw[show flat (kvs ((TA.mk k nm ns l,s)::xs))=.int .i64 k::.str nm::.lst (aJ ns) .none::.lst (TA.avs l) .none::.str s::flat (kvs xs)from rfl]at h
  cases h with|cons v0 _ _ _ h0 h=>
  cases h with|cons v1 _ _ _ h1 h=>
  cases h with|cons v2 _ _ _ h2 h=>
  cases h with|cons v3 _ _ _ h3 h=>
  cases h with|cons v4 _ vs _ h4 h=>
  obtain⟨zs,e1,e2,e3⟩:=ih h;have hs:=iP h4;subst hs;refine⟨(⟨([v0,v1,v2,v3],s),rfl,fun v hv=>?_⟩,(.mk k nm ns l,s))::zs,by rw[List.map_cons,e1],?_,fun z hz=>?_⟩
  ·simp only[List.mem_cons,List.not_mem_nil,or_false]at hv
   rcases hv with rfl|rfl|rfl|rfl
   ·exact uU h0 rfl
   ·exact uU h1 rfl
   ·exact uU h2 rfl
   ·exact uU h3 rfl
  ·rw[List.map_cons,List.flatMap_cons,←e2];rfl
  ·rcases List.mem_cons.1 hz with rfl|hz
   ·exact⟨.cons _ _ _ _ h0 (.cons _ _ _ _ h1 (.cons _ _ _ _ h2 (.cons _ _ _ _ h3 (.cons _ _ _ _ h4 .nil)))),rfl⟩
   ·exact e3 z hz
theorem JE :∀{zs:List (KV×(TA×Bytes))},(∀z∈zs,aX L g (ru z.1) (JH z.2)∧z.1.1.2=z.2.2)→aX L g ((zs.map (·.1)).flatMap ru) (flat (kvs (zs.map (·.2))))
 |[],_=>.nil
 |z::zs,h=>by
  rw[List.map_cons,List.map_cons,List.flatMap_cons];exact((h z List.mem_cons_self).1).append (JE fun y hy=>h y (List.mem_cons_of_mem _ hy))
structure sF (L:Lnk)where
 cf:Bytes→Bytes→Int
 lt:∀s t:Bytes,cf s t<0↔s<t
 sort:∀(blk off cap:Nat) (d:Array KV) (w:World),HoldsK ru 5 w blk off d→blk<w.heap.size→d.size<4611686018427387904→
  Calls L.P (L.num 252) #[.slice (some ⟨blk,off,none⟩) d.size cap,.func (.func (L.num 253)) #[] #[]] w fun e w'=>
   e=.returned (.tuple #[])∧∃d' n os,PermIn 0 d.size d d'∧SortedIn (fun x y=>decide (cf x.1.2 y.1.2<0)) 0 d.size d'∧w'=sortWorldK ru 5 w blk off n d' os
 none:∀(p:Option Addr) (cap:Nat) (fv:Value) (w:World),Calls L.P (L.num 252) #[.slice p 0 cap,fv] w fun e w'=>e=.returned (.tuple #[])∧w'=w
theorem sF.Cq (M:sF L) (H:Heap):aC L 252 [.lst [] .nil,.fn (.func 253) [] []] H fun r H'=>r=.ret (.tup [])∧H'=H:=vC fun g w vs hs hr=>by
 obtain⟨v,u,rfl,h,_⟩:=Ja hr;obtain⟨a,c,k,b,o,vs,rfl,_⟩:=lS h;exact⟨_,.tup [] [] .nil,(M.none a c u w).mono fun e w' ⟨e1,e2⟩=>⟨e1,e2▸Below.refl _ _⟩⟩
theorem sF.Pe (M:sF L) (xs:List (TA×Bytes)) (n id t:Nat) (H:Heap) (hH:H[id]?=some (.arr n (kvs xs) t)) (hn:n=xs.length) (hne:xs≠[]) (hl:n≤2^40):
  aC L 252 [.vec id n 5 0 n,.fn (.func 253) [] []] H fun r H'=>r=.ret (.tup [])∧∃ys:List (TA×Bytes),ys.Perm xs∧ys.Pairwise (fun a b=>a.2≤b.2)∧H'=H.set id (.arr n (kvs ys) t):=fun g w vs hs hr=>by
 obtain⟨v,u,rfl,h,hu⟩:=Ja hr
 cases hu with|fn f _ fi ca _ _ hf h1 h2=>
 cases h1;cases h2
 cases f with
 |func f=>
  obtain⟨rfl,_⟩:=hf
  cases h with
  |vec _ _ _ _ _ c s hs' hsk hc hz=>
   obtain⟨s0,cur,e1,e0,e2,e3,e4,e5,e6,e7,e8,e9,e10⟩:=hs.obj id _ hH;rw[hs']at e1;cases e1;rw[hsk,jL]at e7 e8;obtain⟨zs,f1,f2,f3⟩:=PS e8;have hzl:zs.length=n:=by rw[hn,←f1];simp
   have hds:(zs.map (·.1)).toArray.size=n:=by simp[hzl]
   have hfl:(flatK ru 5 (zs.map (·.1)).toArray).toList=cur.toList.take (xs.length*5):=by rw[Dx DI,f2]
   have hfs:(flatK ru 5 (zs.map (·.1)).toArray).size=xs.length*5:=by simp[hzl,hn]
   have Sg:HoldsK ru 5 w s.b 0 (zs.map (·.1)).toArray:=fun j hj=>by
    rw[hfs]at hj
    have h3:cur.toList[j]?=some ((flatK ru 5 (zs.map (·.1)).toArray)[j]!):=by
     have h4:(flatK ru 5 (zs.map (·.1)).toArray).toList[j]?=cur.toList[j]?:=by rw[hfl,List.getElem?_take,if_pos hj]
     rw[←h4,Array.getElem?_toList,Array.getElem?_eq_getElem (by rw[hfs];exact hj),getElem!_pos _ j (by rw[hfs];exact hj)]
    rw[Nat.zero_add];refine⟨?_,by simp[World.frozen?,e4]⟩;simp only[World.cell?,e4,Option.isSome_none,Bool.false_eq_true,if_false];rw[←Array.getElem?_toList,h3];rfl
   have hcall:=M.sort s.b 0 c _ w Sg (hs.bnd _ _ _ hs') (by rw[hds];omega);rw[hds]at hcall;refine hcall.mono fun e w' ⟨he,d',m,os,hp,hso,hw⟩=>?_
   obtain⟨p1,_,p3⟩:=hp;rw[hds]at p1
   have hperm:(zs.map (·.1)).Perm d'.toList:=by
    have e1:(d'.extract 0 n)=d':=by rw[←p1,Array.extract_size]
    have e2:((zs.map (·.1)).toArray.extract 0 n)=(zs.map (·.1)).toArray:=by
     conv=>lhs;rw[←hds]
     rw[Array.extract_size]
    rw[e1,e2]at p3;exact p3.symm
   obtain⟨zs',g1,g2⟩:=EU hperm;have f3':∀z∈zs',aX L g (ru z.1) (JH z.2)∧z.1.1.2=z.2.2:=fun z hz=>f3 z (g1.symm.subset hz)
   have hzl':zs'.length=n:=by rw[←g1.length_eq,hzl]
   have hys:(zs'.map (·.2)).Perm xs:=by rw[←f1];exact(g1.symm.map _)
   have hd':d'=(zs'.map (·.1)).toArray:=by rw[g2]
   refine⟨.ret (.tup []),H.set id (.arr n (kvs (zs'.map (·.2))) t),g,⟨rfl,_,hys,?_,rfl⟩,aA.le.refl g,?_,_,he,.tup [] [] .nil⟩
   ·rw[List.pairwise_iff_getElem]
    intro i j hi hj hij;have hi':i<zs'.length:=by simpa using hi
    have hj':j<zs'.length:=by simpa using hj
    have h5:=hso i j (Nat.zero_le _) hij (by omega);rw[hd']at h5;have q1:(zs'.map (·.1)).toArray[i]! =zs'[i].1:=by rw[getElem!_pos _ i (by simpa using hi')];simp
    have q2:(zs'.map (·.1)).toArray[j]! =zs'[j].1:=by rw[getElem!_pos _ j (by simpa using hj')];simp
    rw[q1,q2]at h5;dsimp only at h5;rw[(f3' _ (List.getElem_mem hi')).2,(f3' _ (List.getElem_mem hj')).2]at h5;have h6:=of_decide_eq_false h5;have h7:¬zs'[j].2.2<zs'[i].2.2:=fun hh=>h6 ((M.lt _ _).2 hh)
    simpa using List.not_lt.1 h7
   ·rw[hw]
    have h7:sortWorldK ru 5 w s.b 0 m d' os=grow (mapBlock (Sort.ahead w m) s.b (putCells (_root_.id:Value→Value) 0 (flatK ru 5 d'))) os:=rfl;rw[h7];have hfs':(flatK ru 5 d').size=n*5:=by simp[p1]
    refine I8 hs hH hs' hsk e4 (J3 e4) (w9 _ _ _ _) (fun y hy=>u6 _ y hy) (by rw[jL,jL,List.length_map,hzl',hn]) (fun b hb hlt=>FB hb hlt) Dq rfl rfl rfl ?_;rw[jL,List.length_map,hzl'];have h8:=wZ (_root_.id:Value→Value) (flatK ru 5 d') cur (by rw[hfs'];omega);rw[hfs',List.map_id,Dx DI]at h8;rw[h8,hd'];exact JE f3'
 |_=>exact absurd hf (by simp[KU])
end Go.Ag
/- The library's ParseInt of a text of digits: what the document's Number is. -/
namespace Go.Ag
open Go
open Go.RowKit (Below)
variable {L : Lnk}
def pz (n:Nat) (c:UInt8):Nat:=n*10+(c.toNat-48)
theorem Rw {n:Nat} {c:UInt8} (h1:48≤c.toNat) (h2:c.toNat≤57) (hn:n<10^17):vV (n:Int) c=((pz n c:Nat):Int):=by
 unfold vV pz;have e1:IntKind.u8.wrap ((c.toNat:Int)-48)=(c.toNat:Int)-48:=IntWalk.u8_in _ (by omega);rw[e1,IntWalk.i64_in (10*(n:Int)) (by omega),IntWalk.i64_in ((c.toNat:Int)-48) (by omega),IntWalk.i64_in _ (by omega)];omega
theorem Jj :∀(l:Bytes) (acc:Nat),(∀c∈l,48≤c.toNat∧c.toNat≤57)→l.length≤18→acc<10^(18-l.length)→
  Lib.parseUintM (2^64-1) acc l=.ok (l.foldl pz acc)∧l.foldl vV (acc:Int)=((l.foldl pz acc:Nat):Int)∧l.foldl pz acc<10^18
 |[],acc,h,hl,ha=>⟨rfl,rfl,ha⟩
 |c::l,acc,h,hl,ha=>by
  obtain⟨h1,h2⟩:=h c (by simp);rw[List.length_cons]at hl ha;have e1:18-l.length=(18-(l.length+1))+1:=by omega
  have hp:10^(18-l.length)=10^(18-(l.length+1))*10:=by rw[e1,Nat.pow_succ]
  have hle:10^(18-(l.length+1))≤10^17:=Nat.pow_le_pow_right (by decide) (by omega);have ha2:pz acc c<10^(18-l.length):=by unfold pz;omega
  obtain⟨k1,k2,k3⟩:=Jj l (pz acc c) (fun d hd=>h d (by simp[hd])) (by omega) ha2;refine⟨?_,?_,k3⟩
  ·rw[Lib.parseUintM,if_pos ⟨h1,h2⟩,if_neg (by omega),if_neg (by omega)]
   exact k1
  ·rw[List.foldl_cons,Rw h1 h2 (by omega)]
   exact k2
theorem Pp {s:Bytes} (h:yK s):Lib.parseIntB 64 s=.ok (tJ s):=by
 obtain⟨h0,h1,h2⟩:=h;obtain⟨k1,k2,k3⟩:=Jj s 0 h2 h1 (Nat.pow_pos (by decide))
 cases s with
 |nil=>exact absurd rfl h0
 |cons c r=>
  obtain⟨c1,c2⟩:=h2 c (by simp);unfold Lib.parseIntB;simp only;rw[if_neg (by omega),show Lib.parseUintB 64 (c::r)=.ok ((c::r).foldl pz 0)from by unfold Lib.parseUintB;rw[if_neg (by simp)];exact k1];simp only;rw[if_neg (by omega),if_neg (by omega),if_neg (by omega)]
  congr 1
  exact k2.symm
structure Io (L:Lnk)where
 t:TypeId
 parse:∀(s:ByteArray) (v:Int) (w:World),s.size≤9223372036854775806→Lib.parseIntB 64 s.data.toList=.ok v→
  Calls L.P (L.num 322) #[.string s,.int .i64 10,.int .i64 64] w fun e w'=>e=.returned (.tuple #[.int .i64 v,.nilIface])∧(w'=w∨∃z,w'=Lib.bytesWorld w t z)
theorem Io.lib (M:Io L):UZ L where
 num:=fun s hs H=>Qo fun g w vs hst hr=>by
  cases hr with
  |cons v _ vs' _ h0 hr=>
   cases hr with
   |cons v1 _ vs1 _ h1 hr=>
    cases hr with
    |cons v2 _ vs2 _ h2 hr=>
     cases hr;cases h0;cases h1;cases h2;have hl:=hs.2.1;refine(M.parse ⟨s.toArray⟩ (tJ s) w (by show s.toArray.size≤_;rw[List.size_toArray];omega) (by show Lib.parseIntB 64 s.toArray.toList=_;rw[List.toList_toArray];exact Pp hs)).mono fun e w' ⟨e1,e2⟩=>⟨⟨_,e1,.tup [_,_] _ (.cons _ _ _ _ (.int _ _) (.cons _ _ _ _ .eU .nil))⟩,?_⟩
     rcases e2 with rfl|⟨z,rfl⟩
     ·exact Below.refl _ _
     ·exact Lib.bytesWorld_below _ _ _
end Go.Ag
/- Package parts: Fields; the library's IndexFunc and DeleteFunc of names, walked. -/
namespace Go.Ag
open Go
variable {T : Tab} {L : Lnk}
theorem Ch (l:List Bytes):∀x∈aJ l,x.cells.length=1:=fun x hx=>by
 simp only[aJ,List.mem_map]at hx;obtain⟨s,_,rfl⟩:=hx;rfl
theorem yx (n:Nat) (l:List Bytes):∀x∈aJ l,Low n x:=fun x hx=>by
 simp only[aJ,List.mem_map]at hx;obtain⟨s,_,rfl⟩:=hx;exact .str _
theorem ED (l:List Bytes):flat (aJ l)=aJ l:=by
 induction l with
 |nil=>rfl
 |cons s l ih=>show [au.str s] ++flat (aJ l)=_;rw[ih];rfl
theorem NM {H:Heap} {id n t i:Nat} {l:List Bytes} (h:H[id]?=some (.arr n (aJ l) t)) (hi:i<l.length):loadAt H none (.iZ id n (i*1))=some (.str l[i]):=by
 simp only[loadAt,fO,h];rw[ED,Nat.mul_one,if_pos ⟨trivial,by rw[dM];omega⟩,List.drop_eq_getElem_cons (by rw[dM];exact hi)];simp[aJ]
theorem Q6 {H:Heap} {id n t i:Nat} {l:List Bytes} (s:Bytes) (h:H[id]?=some (.arr n (aJ l) t)) (hi:i<l.length):storeAt H 1 (.iZ id n (i*1)) (.str s)=some (H.set id (.arr n (aJ (l.take i ++[s] ++l.drop (i+1))) t)):=by
 simp only[storeAt,h];rw[if_pos ⟨trivial,rfl,by rw[Nat.mul_one,Nat.div_one,Nat.mul_one],by rw[Nat.mul_one,Nat.div_one,dM];exact hi,by rw[List.all_eq_true];exact fun y hy=>by simpa using Ch l y hy⟩,Nat.mul_one,Nat.div_one];simp[aJ,List.map_take,List.map_drop]
def Hl (p:Bytes→Bool):List Bytes→Nat→Int
 |[],_=> -1
 |x::l,j=>if p x then(j:Int)else Hl p l (j+1)
theorem Fw {p:Bytes→Bool}:∀(l:List Bytes) (j:Nat),(Hl p l j= -1∧∀x∈l,p x=false)∨∃i,Hl p l j=((j+i:Nat):Int)∧∃h:i<l.length,p l[i]=true∧∀x∈l.take i,p x=false
 |[],j=>.inl ⟨rfl,by simp⟩
 |x::l,j=>by
  rw[Hl];cases hp:p x
  ·rw[if_neg (by simp)]
   rcases Fw l (j+1)with⟨h1,h2⟩|⟨i,h1,h2,h3,h4⟩
   ·exact .inl ⟨h1,fun y hy=>by
     rcases List.mem_cons.1 hy with rfl|hy
     ·exact hp
     ·exact h2 y hy⟩
   ·refine .inr ⟨i+1,by rw[h1];congr 1;omega,by simpa using h2,by simpa using h3,fun y hy=>?_⟩
    rw[List.take_succ_cons]at hy;rcases List.mem_cons.1 hy with rfl|hy
    ·exact hp
    ·exact h4 y hy
  ·rw[if_pos rfl]
   exact .inr ⟨0,by rw[Nat.add_zero],by simp,by simpa using hp,by simp⟩
section
variable {g : Nat} {o0 o1 o2 o3 o4 : aT} {p : Bytes → Bool}
def vG (o0 o1 o2 o3 o4:aT):Heap:=[o0,o1,o2,o3,o4]
structure Ef (T:Tab) (g:Nat) (o0 o1 o2 o3 o4:aT) (p:Bytes→Bool):Prop where
 low:∀o∈vG o0 o1 o2 o3 o4,bC 5 o
 call:∀nm,dX T.L g [.str nm,.ptr 3 0,.ptr 4 0] (vG o0 o1 o2 o3 o4) (.bool (p nm)) (vG o0 o1 o2 o3 o4)
theorem Ef.Yo (D:Ef T g o0 o1 o2 o3 o4 p) (o:aT) (ho:bC 6 o):fH 6 [o0,o1,o2,o3,o4,o]:=
 have h:∀o∈vG o0 o1 o2 o3 o4,bC 6 o:=fun o hm=>aI (by decide) (D.low o hm)
 ⟨h o0 (by simp[vG]),h o1 (by simp[vG]),h o2 (by simp[vG]),h o3 (by simp[vG]),h o4 (by simp[vG]),ho,trivial⟩
theorem Ef.ask (D:Ef T g o0 o1 o2 o3 o4 p) (nm:Bytes) (o:aT) {K KP:au→Heap→Prop} (hk:K (.bool (p nm)) [o0,o1,o2,o3,o4,o]):aC T.L g [.str nm,.ptr 3 0,.ptr 4 0] [o0,o1,o2,o3,o4,o] (dP K KP):=
 (D.call nm).to rfl (eZ.at ⟨.str _,.ptr _ _ (show 3<5 by decide),.ptr _ _ (show 4<5 by decide),trivial⟩) D.low (.bool _) D.low [o] rfl hk
theorem JN (Dp:T.has 243 D7) (D:Ef T g o0 o1 o2 o3 o4 p) (xs:List Bytes) (n t:Nat) (hn:n=xs.length) (hl:n≤2^40):
  aC T.L 243 [.vec 5 n 1 0 n,.fn (.func g) [] [.ptr 3 0,.ptr 4 0]] [o0,o1,o2,o3,o4,.arr n (aJ xs) t] fun r H'=>r=.ret (.int .i64 (Hl p xs 0))∧H'=[o0,o1,o2,o3,o4,.arr n (aJ xs) t]:=by
 refine aG Dp (by simp[D7]) ?_;conv=>whnf
 intro I hI hG;have hlo:bC 6 (.arr n (aJ xs) t):=yx 6 xs;have hL:=D.Yo _ hlo;obtain⟨fin,hfin⟩:∃fin,Hl p xs 0=fin:=⟨_,rfl⟩;rw[hfin]at hI
 have key:∀(d j:Nat) (e:Env),xs.length-j=d→j≤xs.length→Hl p (xs.drop j) j=fin→
   I (fZ e [(0,.vec 5 n 1 0 n),(1,.fn (.func g) [] [.ptr 3 0,.ptr 4 0]),(7,.int .i64 n),(8,.int .i64 j)]) [o0,o1,o2,o3,o4,.arr n (aJ xs) t]:=by
  intro d
  induction d with
  |zero=>
   intro j e hd hj hf;have hjl:j=xs.length:=by omega
   rw[hjl,List.drop_length,Hl]at hf;subst hf;apply hI;conv=>whnf
   rw[bW (by omega)];conv=>whnf
   exact⟨rfl,rfl⟩
  |succ d ihd=>
   intro j e hd hj hf;have hjl:j<xs.length:=by omega
   rw[List.drop_eq_getElem_cons hjl,Hl]at hf;have hnext:=fun e=>ihd (j+1) e (by omega) hjl
   have hload:=fun(H:Heap) (h:H[5]?=some (.arr n (aJ xs) t))=>NM h hjl
   have Sq:=fun(K KP:au→Heap→Prop) (hk:K (.bool (p xs[j])) [o0,o1,o2,o3,o4,.arr n (aJ xs) t])=>D.ask xs[j] (.arr n (aJ xs) t) (K:=K) (KP:=KP) hk
   generalize xs[j]=v at hf hload Sq;apply hI;conv=>whnf
   rw[dB (by omega)];conv=>whnf
   refine⟨⟨Int.natCast_nonneg _,by omega,rfl⟩,?_⟩;conv=>whnf
   rw[show(0+((j:Nat):Int).toNat)*1=j*1 from by simp];refine l9 (hload _ rfl) ?_;conv=>whnf
   refine Sq _ _ ?_;cases hp:p v
   ·rw[if_neg (by rw[hp];simp)]at hf
    conv=>whnf
    exact hG.keep [(0,.vec 5 n 1 0 n),(1,.fn (.func g) [] [.ptr 3 0,.ptr 4 0]),(7,.int .i64 n),(8,.int .i64 (j+1:Nat))] [o0,o1,o2,o3,o4,.arr n (aJ xs) t] (Nat.le_refl 6) rfl ⟨rfl,rfl,rfl,add1 (by omega),trivial⟩
     ⟨.vec _ _ _ _ _ (by decide:5<6),.fn _ _ _ fI (eZ.at ⟨.ptr _ _ (show _<6 by decide),.ptr _ _ (show _<6 by decide),trivial⟩),.int _ _,.int _ _,trivial⟩ hL (hnext _ hf)
   ·rw[if_pos hp]at hf
    subst hf;conv=>whnf
    exact⟨rfl,rfl⟩
 exact inv_of [(0,.vec 5 n 1 0 n),(1,.fn (.func g) [] [.ptr 3 0,.ptr 4 0]),(7,.int .i64 n),(8,.int .i64 (0:Nat))] ⟨rfl,rfl,rfl,rfl,trivial⟩ (key xs.length 0 _ rfl (Nat.zero_le _) hfin)
structure xB (p:Bytes→Bool) (xs A:List Bytes) (j m:Nat):Prop where
 len:A.length=xs.length
 front:A.take m=(xs.take j).filter fun x=> !p x
 Me:m=((xs.take j).filter fun x=> !p x).length
 lt:m<j
 back:A.drop j=xs.drop j
theorem xB.at {xs A:List Bytes} {j m:Nat} (h:xB p xs A j m) (hj:j<xs.length):∃h':j<A.length,A[j]=xs[j]:=by
 refine⟨by rw[h.len];exact hj,?_⟩;have e1:(A.drop j)[0]?=(xs.drop j)[0]?:=by rw[h.back]
 rw[List.getElem?_drop,List.getElem?_drop,Nat.add_zero,List.getElem?_eq_getElem hj,List.getElem?_eq_getElem (by rw[h.len];exact hj)]at e1;exact Option.some.inj e1
theorem xB.skip {xs A:List Bytes} {j m:Nat} (h:xB p xs A j m) (hj:j<xs.length) (hp:p xs[j]=true):xB p xs A (j+1) m:=by
 have e:(xs.take (j+1)).filter (fun x=> !p x)=(xs.take j).filter fun x=> !p x:=by
  rw[List.take_succ_eq_append_getElem hj,List.filter_append];simp[hp]
 refine⟨h.len,by rw[e];exact h.front,by rw[e];exact h.Me,by have:=h.lt;omega,?_⟩;rw[←List.drop_drop,←List.drop_drop,h.back]
theorem xB.take {xs A:List Bytes} {j m:Nat} (h:xB p xs A j m) (hj:j<xs.length) (hp:p xs[j]=false):xB p xs (A.take m ++[xs[j]] ++A.drop (m+1)) (j+1) (m+1):=by
 have hlt:=h.lt;have hlen:=h.len;have hml:(A.take m).length=m:=by rw[List.length_take];omega
 have e:(xs.take (j+1)).filter (fun x=> !p x)=((xs.take j).filter fun x=> !p x) ++[xs[j]]:=by
  rw[List.take_succ_eq_append_getElem hj,List.filter_append];simp[hp]
 have e0:(A.take m ++[xs[j]]).length=m+1:=by simp[hml]
 refine⟨by simp;omega,?_,by rw[e,List.length_append,←h.Me];rfl,by omega,?_⟩
 ·rw[List.take_append_of_le_length (by omega),List.take_of_length_le (by omega),e,h.front]
 ·rw[List.drop_append,List.drop_of_length_le (by omega),List.nil_append,e0,List.drop_drop,show m+1+(j+1-(m+1))=j+1 from by omega,←List.drop_drop,←List.drop_drop,h.back]
theorem YI {o0 o1 o2 o3 o4:aT} {xs A:List Bytes} {n t m r:Nat} (hr:m+(r+1)=n) (hA:A.length=n) (hf:A.take m=xs):
  DX 1 (.str []) [o0,o1,o2,o3,o4,.arr n (aJ A) t] (.vec 5 n 1 (0+m) (r+1))=some [o0,o1,o2,o3,o4,.arr n (aJ (xs ++List.replicate (r+1) [])) t]:=by
 rw[Nat.zero_add,DX];simp only[List.getElem?_cons_zero,List.getElem?_cons_succ];rw[if_pos ⟨trivial,trivial,by rw[dM];omega,by rw[List.all_eq_true];exact fun y hy=>by simpa using Ch A y hy⟩];have e1:(aJ A).take m=aJ xs:=by rw[←hf];simp[aJ,List.map_take]
 have e2:(aJ A).drop (m+(r+1))=[]:=List.drop_of_length_le (by rw[dM];omega);rw[e1,e2,List.append_nil];simp[aJ]
theorem H8 (Dp:T.has 243 D7) (Hu:T.has 207 F3) (D:Ef T g o0 o1 o2 o3 o4 p) (xs:List Bytes) (n t:Nat) (hn:n=xs.length) (hl:n≤2^40):
  aC T.L 207 [.vec 5 n 1 0 n,.fn (.func g) [] [.ptr 3 0,.ptr 4 0]] [o0,o1,o2,o3,o4,.arr n (aJ xs) t] fun r H'=>∃rest,r=.ret (.vec 5 n 1 0 (xs.filter fun x=> !p x).length)∧(xs.filter fun x=> !p x).length+rest.length=n∧H'=[o0,o1,o2,o3,o4,.arr n (aJ ((xs.filter fun x=> !p x) ++rest)) t]:=by
 have hix:=JN Dp D xs n t hn hl;refine aG Hu (by simp[F3]) ?_;conv=>whnf
 refine(hix.mono (Q':=dP _ _) fun r H' ⟨e1,e2⟩=>?_);subst e1 e2;rcases Fw (p:=p) xs 0 with⟨h1,h2⟩|⟨i,h1,hi,h3,h4⟩
 ·have hf:xs.filter (fun x=> !p x)=xs:=List.filter_eq_self.2 fun x hx=>by rw[h2 x hx];rfl
  rw[h1];conv=>whnf
  refine⟨[],by rw[hf,←hn];rfl,by rw[hf,←hn];rfl,by rw[hf,List.append_nil]⟩
 ·rw[h1,Nat.zero_add]
  have hst:xB p xs xs (i+1) i:=by
   have hfi:(xs.take (i+1)).filter (fun x=> !p x)=xs.take i:=by
    rw[List.take_succ_eq_append_getElem hi,List.filter_append,List.filter_eq_self.2 fun x hx=>by rw[h4 x hx];rfl];simp[h3]
   exact⟨rfl,hfi.symm,by rw[hfi,List.length_take];omega,by omega,rfl⟩
  clear h1 h3 h4 hix;conv=>whnf
  rw[show(((i:Nat):Int)== -1)=false from by simp];conv=>whnf
  rw[add1 (by omega)];intro I hI hG;obtain⟨ys,hys⟩:∃ys,xs.filter (fun x=> !p x)=ys:=⟨_,rfl⟩;rw[hys]at hI
  have key:∀(d j m:Nat) (A:List Bytes) (e:Env),n-j=d→j≤n→xB p xs A j m→
    I (fZ e [(0,.vec 5 n 1 0 n),(1,.fn (.func g) [] [.ptr 3 0,.ptr 4 0]),(5,.int .i64 m),(6,.int .i64 j)]) [o0,o1,o2,o3,o4,.arr n (aJ A) t]:=by
   intro d
   induction d with
   |zero=>
    intro j m A e hd hj hst;have hlt:=hst.lt;have hjn:j=n:=by omega
    have hfr:=hst.front;have hm:=hst.Me;rw[hjn,hn,List.take_length,hys]at hfr hm;have hr:m+(n-m-1+1)=n:=by omega
    have hclr:=YI (o0:=o0) (o1:=o1) (o2:=o2) (o3:=o3) (o4:=o4) (t:=t) hr (by rw[hst.len,hn]) hfr;have hnm:n-m-1+1=n-m:=by omega
    rw[hnm]at hclr;apply hI;conv=>whnf
    rw[bW (by omega)];conv=>whnf
    refine⟨⟨by omega,by omega,by omega,rfl⟩,?_⟩;conv=>whnf
    rw[Int.toNat_natCast,hclr];conv=>whnf
    refine⟨⟨by omega,by omega,by omega,rfl⟩,?_⟩;conv=>whnf
    refine⟨List.replicate (n-m) [],by rw[←hm];rfl,by rw[List.length_replicate,←hm];omega,rfl⟩
   |succ d ihd=>
    intro j m A e hd hj hst;have hjx:j<xs.length:=by omega
    have hlt:=hst.lt;have hAl:=hst.len;obtain⟨hjA,hat⟩:=hst.at hjx;have hL:=D.Yo (.arr n (aJ A) t) (yx 6 A);have hload:=fun(H:Heap) (h:H[5]?=some (.arr n (aJ A) t))=>NM h hjA
    rw[hat]at hload;have Sq:=fun(K KP:au→Heap→Prop) (hk:K (.bool (p xs[j])) [o0,o1,o2,o3,o4,.arr n (aJ A) t])=>D.ask xs[j] (.arr n (aJ A) t) (K:=K) (KP:=KP) hk
    have AY:=hst.skip hjx;have htake:=hst.take hjx;generalize xs[j]=v at hload Sq AY htake;apply hI;conv=>whnf
    rw[dB (by omega)];conv=>whnf
    refine⟨⟨Int.natCast_nonneg _,by omega,rfl⟩,?_⟩;conv=>whnf
    rw[show(0+((j:Nat):Int).toNat)*1=j*1 from by simp];refine l9 (hload _ rfl) ?_;conv=>whnf
    refine Sq _ _ ?_;have hj1:j+1<9223372036854775808:=by omega
    have hm1:m+1<9223372036854775808:=by omega
    cases hp:p v
    ·have hst':=htake hp
     have hL':=D.Yo (.arr n (aJ (A.take m ++[v] ++A.drop (m+1))) t) (yx 6 _);have hsto:=Q6 (H:=[o0,o1,o2,o3,o4,.arr n (aJ A) t]) (id:=5) (n:=n) (t:=t) (i:=m) v rfl (by rw[hAl];omega);generalize A.take m ++[v] ++A.drop (m+1)=A' at hst' hsto hL';conv=>whnf
     refine⟨⟨Int.natCast_nonneg _,by omega,rfl⟩,?_⟩;conv=>whnf
     rw[show(0+((m:Nat):Int).toNat)*1=m*1 from by simp,hsto];conv=>whnf
     exact hG.keep [(0,.vec 5 n 1 0 n),(1,.fn (.func g) [] [.ptr 3 0,.ptr 4 0]),(5,.int .i64 (m+1:Nat)),(6,.int .i64 (j+1:Nat))] [o0,o1,o2,o3,o4,.arr n (aJ A') t] (Nat.le_refl 6) rfl ⟨rfl,rfl,add1 hm1,add1 hj1,trivial⟩
      ⟨.vec _ _ _ _ _ (by decide:5<6),.fn _ _ _ fI (eZ.at ⟨.ptr _ _ (show _<6 by decide),.ptr _ _ (show _<6 by decide),trivial⟩),.int _ _,.int _ _,trivial⟩ hL' (ihd (j+1) (m+1) A' _ (by omega) (by omega) hst')
    ·have hst':=AY hp
     conv=>whnf
     exact hG.keep [(0,.vec 5 n 1 0 n),(1,.fn (.func g) [] [.ptr 3 0,.ptr 4 0]),(5,.int .i64 m),(6,.int .i64 (j+1:Nat))] [o0,o1,o2,o3,o4,.arr n (aJ A) t] (Nat.le_refl 6) rfl ⟨rfl,rfl,rfl,add1 hj1,trivial⟩
      ⟨.vec _ _ _ _ _ (by decide:5<6),.fn _ _ _ fI (eZ.at ⟨.ptr _ _ (show _<6 by decide),.ptr _ _ (show _<6 by decide),trivial⟩),.int _ _,.int _ _,trivial⟩ hL (ihd (j+1) m A _ (by omega) (by omega) hst')
  exact inv_of [(0,.vec 5 n 1 0 n),(1,.fn (.func g) [] [.ptr 3 0,.ptr 4 0]),(5,.int .i64 i),(6,.int .i64 (i+1:Nat))] ⟨rfl,rfl,rfl,rfl,trivial⟩ (key _ (i+1) i xs _ rfl (by omega) hst)
end
end Go.Ag
/- Package parts: Fields. -/
namespace Go.Ag
open Go
variable {T : Tab} {L : Lnk}
theorem St.Hy {g:aA} {w:World} {H:Heap} (h:St L g w H) {id v t m:Nat} {xs:List au} (hid:H[id]?=some (.arr v xs t)) (k:Nat) (hm:m≤xs.length):
  ∃g',g.le g'∧St L g' w (H.set id .gone)∧∀u,Rep L g' u (.vec id v k 0 m)→Rep L g' u (.lst (xs.take m) .none):=by
 obtain⟨s,vs,e1,e0,e2,e3,e4,e5,e6,e7,e8,e9,e10⟩:=h.obj id _ hid
 have e8:aX L g (vs.toList.take (m*s.k)) (flat (xs.take m)):=by
  have h1:=e8.take (m*s.k);rw[wo m e6,List.take_take,Nat.min_eq_left (Nat.mul_le_mul_right _ hm)]at h1;exact h1
 have hf:∀o,0≤o→o<0+(vs.toList.take (m*s.k)).length→g.fz s.b o=none:=fun o _ _=>e9 o
 have hle:=aA.mP (g:=g) e10.2 hf
 have hlt:id<H.length:=by
  rcases Nat.lt_or_ge id H.length with h'|h'
  ·exact h'
  ·rw[List.getElem?_eq_none h']at hid;cases hid
 have hw:St L g w (H.set id .gone):=h.weak (by simp) fun i o o' ho ho'=>by
  rw[List.getElem?_set]at ho';split at ho'
  ·rename_i he
   subst he;cases ho';cases o<;>exact trivial
  ·rw[ho]at ho';cases ho';exact bO.refl o
 have hcell:∀j v,(vs.toList.take (m*s.k))[j]?=some v→w.cell? ⟨s.b,0+j,none⟩=some v:=fun j v hv=>by
  rw[List.getElem?_take]at hv;split at hv
  ·simp only[World.cell?,e4,Nat.zero_add]
   simpa using hv
  ·cases hv
 refine⟨g.iH s.b 0 (vs.toList.take (m*s.k)),hle,hw.nJ e10.2 hf hcell (fun i o s' ho ha hs hb=>?_),fun u hu=>?_⟩
 ·rw[List.getElem?_set]at ho
  split at ho
  ·rename_i he
   subst he;cases ho;cases ha
  ·rename_i hne
   exact hne (h.inj id i _ o s s' hid ho rfl ha e1 hs hb.symm)
 ·cases hu with
  |vec _ _ _ _ _ c s' h1 hk hc hz=>
   have:s'=s:=by
    have h2:=hle.ob _ _ _ e1;rw[h2]at h1;exact(Option.some.inj h1).symm
   subst this;have hl:(xs.take m).length=m:=by rw[List.length_take];omega
   have:=Rep.lst (L:=L) (g:=g.iH s'.b 0 (vs.toList.take (m*s'.k))) (some ⟨s'.b,0*k,none⟩) c k s'.b 0 (xs.take m) (vs.toList.take (m*s'.k)) .none (fun _=>by rw[Nat.zero_mul]) (fun j v hv=>aA.oh _ _ _ _ j v hv) (fun x hx=>by rw[e6 x (List.mem_of_mem_take hx),hk]) (by rw[hl];exact hc) trivial (e8.mono hle);rw[hl]at this;exact this
theorem aC.Hy {f : Nat} {args : List au} {H : Heap} {Q : fF → Heap → Prop}
  (h : aC L f args H fun r H' => Q r H' ∨ ∃ id v xs t k m, H'[id]? = some (.arr v xs t) ∧ m ≤ xs.length ∧ r = .ret (.vec id v k 0 m) ∧ Q (.ret (.lst (xs.take m) .none)) (H'.set id .gone)) : aC L f args H Q := fun g w vs hs hr =>
 (h g w vs hs hr).mono fun e w' ⟨r, H', g', hq, hle, hst, hrep⟩ => by
  rcases hq with hq | ⟨id, v, xs, t, k, m, h1, h2, h3, h4⟩
  ·exact ⟨r, H', g', hq, hle, hst, hrep⟩
  ·subst h3
   obtain ⟨g2, k1, k2, k3⟩ := hst.Hy h1 k h2
   obtain ⟨u, rfl, hv⟩ := hrep
   exact ⟨_, _, g2, h4, hle.trans k1, k2, u, rfl, k3 _ (hv.mono k1)⟩
structure KZ (L:Lnk):Prop where
 row:∀(ns:List Bytes) (H:Heap),ns≠[]→ns.length≤2^40→∃t,aC L 208 [.lst (aJ ns) .none] H fun r H'=>r=.ret (.vec H.length ns.length 1 0 ns.length)∧H'=H ++[.arr ns.length (aJ ns) t]
structure Ed (T:Tab):Prop extends wN T where
 Xb:T.has 173 OC
 Hu:T.has 207 F3
 WR:T.has 209 Uk
 Dp:T.has 243 D7
 clib:KZ T.L
noncomputable def Ry (e:eu) (t:TA) (nm:Bytes):Bool:=((gives (cZ nm) (hdE e t)).2:Int) !=0
noncomputable def Hz (e:eu) (t:TA):List Bytes:=((hdE e t).headD dG).names.filter fun nm=> !Ry e t nm
def m0E (e:eu):aT:=.map (bZ e.by_ 0) e.by_.length
def m1E (e:eu):aT:=.map (gG e.empty 0) e.empty.length
def c2E :aT:=.cells [.map 0,.map 1] 234
theorem Kl (e:eu):iE e=[m0E e,m1E e,c2E]:=rfl
theorem HV (F:Ed T) {by_:List (Bytes×TA)} {e:eu} {C:List TA} (W:lC by_ e C) {t:TA} (ht:GC' C t) (hw:wtL (hdE e t)≤2^26):
  Ef T 209 (m0E e) (m1E e) c2E (.cells [.ptr 2 0] 179) (bX t) (Ry e t):=by
 have hlow:∀o∈vG (m0E e) (m1E e) c2E (.cells [.ptr 2 0] 179) (bX t),bC 5 o:=
  fH.at ⟨eP 5 _ _,fP 5 _ _,dZ ⟨.map _ (by decide:0<5),.map _ (by decide:1<5),trivial⟩,dZ ⟨.ptr _ _ (by decide:2<5),trivial⟩,aI (Nat.zero_le _) (dF t),trivial⟩
 refine⟨hlow,fun nm=>?_⟩;have hF:=l7 F.towN W ht hw nm;unfold Ry;generalize gives (cZ nm) (hdE e t)=r at hF;obtain⟨u,how⟩:=r;refine dX.of 0 rfl (.bool _) hlow (aC.mono (Q:=fun r H'=>∃x J,r=.ret x∧Weak T.L x (.bool ((how:Int) !=0))∧H'=vG (m0E e) (m1E e) c2E (.cells [.ptr 2 0] 179) (bX t) ++J) ?_ fun r H' ⟨x,J,e1,e2,e3⟩=>⟨x,_,J,e1,e2,e3,rfl,fun i x y h1 h2=>by rw[h1]at h2;cases h2;exact bO.refl x⟩);have la:∀w∈[t.av,au.str nm],Low 3 w:=eZ.at ⟨aU _ t,.str _,trivial⟩;have ly:Low 3 (.tup [u.av,.int .i64 how]):=.tup _ (eZ.at ⟨aU _ _,.int _ _,trivial⟩);have hc:=fun(J:Heap) (K KP:au→Heap→Prop) (hk:K (.tup [u.av,.int .i64 how]) (iE e ++J))=>hF.to la ly J rfl (K:=K) (KP:=KP) hk
 rw[Kl]at hc;generalize m0E e=o0 at hc⊢;generalize m1E e=o1 at hc⊢;obtain⟨tk,tn,ts,tl⟩:=t;obtain⟨uk,un,us,ul⟩:=u;refine aG F.WR (by simp[Uk]) ?_;conv=>whnf
 refine hc [_,_] _ _ ?_;conv=>whnf
 exact⟨_,_,rfl,Weak.refl _,rfl⟩
theorem Yl {t:TA} (h:wtT t≤2^30):t.names.length≤2^40:=by
 obtain⟨k,nm,ns,l⟩:=t;have:=Rx ns;rw[wtT]at h;show ns.length≤_;omega
theorem Tj (Dp:T.has 243 D7) (Hu:T.has 207 F3) (g:Nat) (cs:List au) (tk:Tok) (H:Heap):aC T.L 207 [.lst [] tk,.fn (.func g) [] cs] H fun r H'=>r=.ret (.lst [] tk)∧H'=H:=by
 have h1:aC T.L 243 [.lst [] tk,.fn (.func g) [] cs] H fun r H'=>r=.ret (.int .i64 (-1))∧H'=H:=by
  refine aG Dp (by simp[D7]) ?_;conv=>whnf
  intro I hI hG;apply hI;conv=>whnf
  exact⟨rfl,rfl⟩
 refine aG Hu (by simp[F3]) ?_;conv=>whnf
 refine h1.mono (Q':=dP _ _) fun r H' ⟨e1,e2⟩=>?_
 subst e1 e2;conv=>whnf
 exact⟨rfl,rfl⟩
theorem vL (F:Ed T) {by_:List (Bytes×TA)} {e:eu} {C:List TA} (W:lC by_ e C) {t:TA} (ht:GC' C t) (hw:wtL (hdE e t)≤2^26):EK T.L 173 [t.av] e (.lst (aJ (Hz e t)) .none):=by
 have D:=HV F W ht hw;have hH:=W.Dk F.toyj ht;have hne:=(W.Sl ht).2;have hwt:=fun h hh=>(W.Hr ht (h:=h) hh).2
 unfold Hz;generalize Ry e t=p at D;generalize hdE e t=hs at hH hne hwt
 cases hs with
 |nil=>exact absurd rfl hne
 |cons h0 hs=>
 have hnl:=Yl (hwt h0 (by simp));clear hwt hne;show EK T.L 173 [t.av] e (.lst (aJ (h0.names.filter fun nm=> !p nm)) .none);refine EK.of 0 (.lst _ _ trivial (yx _ _)) (aC.Hy (aG F.Xb (by simp[OC]) ?_));have hc:=fun(J:Heap) (K KP:au→Heap→Prop) (hk:K (.lst (TA.avs (h0::hs)) .none) (iE e ++J))=>hH.to (dx (aU _ t)) (.lst _ _ trivial (aV _ _)) J rfl (K:=K) (KP:=KP) hk
 rw[Kl]at hc⊢;generalize m0E e=o0 at hc D⊢;generalize m1E e=o1 at hc D⊢;obtain⟨tk,tn,ts,tl⟩:=t;obtain⟨hk,hn,ns,hl⟩:=h0;have hnl:ns.length≤2^40:=hnl;show kX T.L OC.body _ _ _;conv=>whnf
 refine hc [_,_] _ _ ?_;conv=>whnf
 refine⟨by decide,?_⟩;have hl1:∀ys rest:List Bytes,(aJ (ys ++rest)).take ys.length=aJ ys:=fun ys rest=>by simp[aJ]
 cases ns with
 |nil=>
  conv=>whnf
  refine⟨rfl,?_⟩;conv=>whnf
  refine⟨(by decide:2≤4),?_⟩;conv=>whnf
  refine(F.Le.clone [] (by decide)).to ?_;conv=>whnf
  refine(Tj F.Dp F.Hu 209 _ _ _).mono (Q':=dP _ _) fun r H' ⟨e1,e2⟩=>?_
  subst e1 e2;conv=>whnf
  exact .inl ⟨_,_,rfl,Weak.refl _,rfl⟩
 |cons n0 ns=>
  conv=>whnf
  refine⟨rfl,?_⟩;obtain⟨ty,hcl⟩:=F.clib.row (n0::ns) [o0,o1,c2E,.cells [.ptr 2 0] 179,bX (.mk tk tn ts tl)] (by simp) hnl;have hdel:=H8 F.Dp F.Hu D (n0::ns) _ ty rfl hnl;conv=>whnf
  refine⟨(by decide:2≤4),?_⟩;conv=>whnf
  refine hcl.mono (Q':=dP _ _) fun r H' ⟨e1,e2⟩=>?_
  subst e1 e2;conv=>whnf
  refine hdel.mono (Q':=dP _ _) fun r H' ⟨rest,e1,e2,e3⟩=>?_
  subst e1 e3;conv=>whnf
  refine .inr ⟨5,_,_,ty,1,_,rfl,?_,rfl,_,_,rfl,?_,rfl⟩
  ·rw[dM,List.length_append];omega
  ·rw[hl1];exact Weak.refl _
end Go.Ag
/- The library's Clone of names: a row that may be written. -/
namespace Go.Ag
open Go
open Go.RowKit (Below)
variable {L : Lnk}
theorem mX.Qx (M:mX L) {t:Nat} (ht:L.ty t=M.Rl) (ns:List Bytes) (H:Heap) (hne:ns≠[]) (hn:ns.length≤2^40):
  aC L 208 [.lst (aJ ns) .none] H fun r H'=>r=.ret (.vec H.length ns.length 1 0 ns.length)∧H'=H ++[.arr ns.length (aJ ns) t]:=fun g w vs hs hr=>by
 obtain⟨v,rfl,h⟩:=EM hr;obtain⟨a,c,rfl,hc,hcell⟩:=Ci hs h;obtain⟨b,o,rfl,hb,hcell⟩:=hcell hne
 have h3:=M.clone b o ns.length c (ns.map fun s=>⟨s.toArray⟩) w (by simp) (by omega) (fun j hj=>by
  have hj':j<ns.length:=by simpa using hj
  rw[hcell j ns[j] (List.getElem?_eq_getElem hj')]
  simp only[List.getD_eq_getElem?_getD,List.getElem?_map,List.getElem?_eq_getElem hj',Option.map_some,Option.getD_some])
 refine h3.mono fun e w' ⟨v',e1,e2,_,hbl⟩=>?_
 rw[List.take_of_length_le (by simp),List.map_map]at e2;have hs1:=hs.wider hbl;rcases e2.2 with⟨rfl,h0⟩|⟨gb,cap,cur,rfl,hge,hblk,hcap,_,hsz,hcells⟩
 ·exact absurd (List.eq_nil_of_length_eq_zero h0) hne
 ·have hkp:g.kp gb=none:=by
   cases hq:g.kp gb with
   |none=>rfl
   |some o=>have:=hs.JF hq;omega
  let s:jU:=⟨gb,0,cur.size,1⟩
  have hle:g.le (g.dU H.length ns.length s):=aA.ji (hs1.new _ _ (Nat.le_refl _)) s;have hlt:gb<w'.heap.size:=(Array.getElem?_eq_some_iff.1 hblk).1
  obtain⟨k1,k2⟩:=hs1.push (b:=gb) (ob:=.arr ns.length (aJ ns) t) (s:=s) rfl hlt (fun id o s _ _ hq=>by have:=hs.bnd _ _ _ hq;omega)
   ⟨s,cur,aA.aZ ..,rfl,fun m hm=>by
     simp only[aA.dU,aT.ver];rw[if_neg (by omega)];exact hs1.new _ _ (Nat.le_refl _),Nat.one_pos,by rw[ht];exact hblk,rfl,Ch ns,by rw[dM];show ns.length*1≤cur.size;omega,
    by rw[dM,ED];show aX L _ (cur.toList.take (ns.length*1)) _;rw[hcells];exact sU ns,
    fun o=>by
     cases hq:g.fz gb o with
     |none=>exact hq
     |some v=>have:=hs.Dt hq;omega,⟨Nat.le_trans hs.uf hge,hkp⟩⟩
  have:=Rep.vec (L:=L) (g:=g.dU H.length ns.length s) H.length ns.length 1 0 ns.length cap s (aA.aZ ..) rfl hcap (by show _≤cur.size;omega);exact⟨.ret (.vec H.length ns.length 1 0 ns.length),_,_,⟨rfl,rfl⟩,k1,k2,_,e1,this⟩
end Go.Ag
/- A type and its normal form have the same heads. -/
namespace Go.Ag
open Go
variable {by_ : List (Bytes × TA)} {e : eu} {C : List TA}
theorem L8 {t:TA} (h:GT t):aM (aM t)=aM t:=gK (lI h)
end Go.Ag
/- Package parts: Call. -/
namespace Go.Ag
open Go
variable {T : Tab} {L : Lnk}
structure zy (T:Tab):Prop extends wN T where
 Xc:T.has 157 Uw
 Sw:T.has 199 Ox
def tkC (s:List TA):aT:=.cells [xE (TA.avs s) 4 1] 173
def tkO (s:List TA):aT:=Bn (TA.avs s) 175
def ng (s:List TA) (h:TA):Option TA×List TA:=(kL h,if h.kind=6 then s ++[fstP h]else s)
theorem NI (s:List TA):bC 2 (tkC s):=by
 unfold tkC;refine dZ ⟨?_,trivial⟩
 cases TA.avs s with
 |nil=>exact .lst _ _ trivial fI
 |cons x l=>exact .vec _ _ _ _ _ (show 1<2 by decide)
theorem NH (s:List TA):bC 2 (tkO s):=by
 have h:=aV 2 s;unfold tkO;generalize TA.avs s=l at h
 cases l with
 |nil=>exact trivial
 |cons x l=>exact h
theorem uW {H H':Heap} {k:Nat} {a x:au} {P:Heap→Prop} (h:storeAt H k a x=some H') (hp:P H'):(match storeAt H k a x with
  |some H'=>P H'
  |none=>False):=by rw[h];exact hp
theorem xH {H:Heap} {id n t:Nat} {xs:List au} {z x:au} (h:H[id]?=some (.arr n (xs ++[z]) t)) (hs:dA 4 (xs ++[z])) (hx:x.cells.length=4):
  storeAt H 4 (.iZ id n ((0+((xs.length:Nat):Int).toNat)*4)) x=some (H.set id (.arr n (xs ++[x]) t)):=by
 rw[Int.toNat_natCast,Nat.zero_add];simp only[storeAt,h];rw[if_pos ⟨trivial,hx,by rw[Nat.mul_div_cancel _ (by decide:0<4)],by rw[Nat.mul_div_cancel _ (by decide:0<4)];simp,by rw[List.all_eq_true];exact fun y hy=>by simpa using(hs y hy).1⟩,Nat.mul_div_cancel _ (by decide:0<4)];simp
theorem MV (F:zy T) {y:TA} (hy:NT y) {s:List TA} (hs:s.length<2^30):
  dX T.L 199 [y.av,.ptr 0 0] [tkC s,tkO s] (.tup [((ng s y).1.getD jA).av,.bool (ng s y).1.isSome]) [tkC (ng s y).2,tkO (ng s y).2]:=by
 refine dX.of 0 rfl (.tup _ (eZ.at ⟨aU _ _,.bool _,trivial⟩)) (fH.at ⟨NI _,NH _,trivial⟩)
  (aC.mono (Q:=fun r H'=>∃x J,r=.ret x∧Weak T.L x (.tup [((ng s y).1.getD jA).av,.bool (ng s y).1.isSome])∧H'=[tkC (ng s y).2,tkO (ng s y).2] ++J) ?_ fun r H' ⟨x,J,e1,e2,e3⟩=>⟨x,_,J,e1,e2,e3,rfl,fun i x y h1 h2=>by rw[h1]at h2;cases h2;exact bO.refl x⟩)
 have hz:Weak T.L (.tup [.agg [.int .i64 0,.str [],.lst [] .nil,.lst [] .nil],.bool false]) (.tup [jA.av,.bool false]):=Weak.tup ⟨Weak.agg ⟨Weak.refl _,Weak.refl _,Weak.tok _ _,Weak.tok _ _,trivial⟩,Weak.refl _,trivial⟩
 by_cases hk:y.kind=6
 ·obtain⟨a,b,rfl⟩:∃a b,y=.mk 6 [] [] [a,b]:=by cases hy<;>first|exact⟨_,_,rfl⟩|(cases hk;done)
  have e1:ng s (.mk 6 [] [] [a,b])=(some b,s ++[a]):=rfl;rw[e1];have hsz:=fD s;have hla:(TA.avs s).length=s.length:=bJ s;have e3:TA.avs (s ++[a])=TA.avs s ++[a.av]:=iA s [a];unfold tkC tkO;rw[e3];generalize TA.avs s=xs at hsz hla;obtain⟨ak,an,aaC,al⟩:=a;obtain⟨bk,bn,bs,bl⟩:=b;refine aG F.Sw (by simp[Ox]) ?_;have hb1:(xs.length+1)*72≤2^46:=by omega
  have hz1:dA 4 [.agg [.int .i64 0,.str [],.lst [] .nil,.lst [] .nil]]:=fun z hz=>by rw[List.mem_singleton]at hz;subst hz;exact xO rfl
  have hb2:xs.length+1≤2^46:=by omega
  have hszz:dA 4 (xs ++[.agg [.int .i64 0,.str [],.lst [] .nil,.lst [] .nil]]):=fun z hz=>(List.mem_append.1 hz).elim (hsz z) (hz1 z)
  cases xs with
  |nil=>
   conv=>whnf
   refine⟨Int.le_refl 0,?_⟩;conv=>whnf
   refine⟨rfl,?_⟩;conv=>whnf
   refine BI (xs:=[]) (id:=1) (k:=4) (bytes:=72) (t:=175) hsz hz1 hb1 hb2 (by simp) rfl ?_;conv=>whnf
   refine⟨?_,?_⟩
   ·conv=>whnf
    refine⟨⟨Int.le_refl 0,by decide,rfl⟩,?_⟩;conv=>whnf
    refine⟨?_,?_⟩
    ·conv=>whnf
     refine⟨by decide,?_⟩;conv=>whnf
     refine⟨rfl,?_⟩;conv=>whnf
     exact⟨_,_,rfl,Weak.refl _,rfl⟩
    ·conv=>whnf
     refine⟨by decide,?_⟩;conv=>whnf
     refine⟨rfl,?_⟩;conv=>whnf
     exact⟨_,_,rfl,Weak.refl _,rfl⟩
   ·conv=>whnf
    refine⟨⟨Int.le_refl 0,by decide,rfl⟩,?_⟩;conv=>whnf
    refine⟨by decide,?_⟩;conv=>whnf
    refine⟨rfl,?_⟩;conv=>whnf
    exact⟨_,_,rfl,Weak.refl _,rfl⟩
  |cons x xs=>
   obtain⟨N,hN⟩:∃N,N=(x::xs).length+1:=⟨_,rfl⟩;have hln:∀z,((x::xs) ++[z]).length=N:=fun z=>by rw[hN,List.length_append];rfl
   have hfin:[aT.cells [.vec 1 N 4 0 N] 173,.arr N (x::xs ++[(TA.mk ak an aaC al).av]) 175]=[.cells [xE (x::xs ++[(TA.mk ak an aaC al).av]) 4 1] 173,Bn (x::xs ++[(TA.mk ak an aaC al).av]) 175]:=by
    rw[vO (by simp),vP (by simp),hln]
   rw[←hfin];have hbd:0≤(((x::xs).length:Nat):Int)∧(((x::xs).length:Nat):Int)<(N:Nat)∧4=4:=⟨by omega,by omega,rfl⟩;conv=>whnf
   refine⟨Int.le_refl 0,?_⟩;conv=>whnf
   refine⟨rfl,?_⟩;conv=>whnf
   refine BI (xs:=x::xs) (id:=1) (k:=4) (bytes:=72) (t:=175) hsz hz1 hb1 hb2 (by simp) rfl ?_;rw[hln];conv=>whnf
   refine⟨?_,?_⟩
   ·conv=>whnf
    refine⟨hbd,?_⟩;conv=>whnf
    refine⟨?_,?_⟩
    ·conv=>whnf
     refine uW (xH rfl hszz rfl) ?_;conv=>whnf
     refine⟨by decide,?_⟩;conv=>whnf
     refine⟨rfl,?_⟩;conv=>whnf
     exact⟨_,_,rfl,Weak.refl _,rfl⟩
    ·conv=>whnf
     refine uW (xH rfl hszz rfl) ?_;conv=>whnf
     refine⟨by decide,?_⟩;conv=>whnf
     refine⟨rfl,?_⟩;conv=>whnf
     exact⟨_,_,rfl,Weak.refl _,rfl⟩
   ·conv=>whnf
    refine⟨hbd,?_⟩;conv=>whnf
    refine uW (xH rfl hszz rfl) ?_;conv=>whnf
    refine⟨by decide,?_⟩;conv=>whnf
    refine⟨rfl,?_⟩;conv=>whnf
    exact⟨_,_,rfl,Weak.refl _,rfl⟩
 ·have e1:ng s y=(none,s):=by
   unfold ng kL;rw[if_neg hk,if_neg hk]
  rw[e1];refine aG F.Sw (by simp[Ox]) ?_;obtain⟨yk,yn,ys,yl⟩:=y;conv=>whnf
  rw[show(yk !=6)=true from by simpa[TA.kind]using hk];conv=>whnf
  exact⟨_,_,rfl,hz,rfl⟩
theorem Xy (F:zy T):M6 T 199 tkC tkO (fun n s=>s.length≤n) ng where
 PE:=NI
 PD:=NH
 call:=fun n s y h hn hy _=>MV F hy (by omega)
 next:=fun n s y h=>by
  unfold ng;dsimp only;split
  ·rw[List.length_append,List.length_singleton];omega
  ·omega
theorem RI (s:List TA):bC 0 (tkO s):=by
 have h:=aV 0 s;unfold tkO;generalize TA.avs s=l at h
 cases l with
 |nil=>exact trivial
 |cons x l=>exact h
theorem Tg {tv y:au} {e:eu} {s:List TA} (h:dX L 195 [.ptr 4 0,tv,.fn (.func 199) [] [.ptr 0 0]] (tkC []::tkO []::nL e) y (tkC s::tkO s::nL e)) (lt:Low 0 tv) (ly:Low 0 y) (c4 c5:aT):
  aC L 195 [.ptr 2 0,tv,.fn (.func 199) [] [.ptr 6 0]] (iE e ++[.dead,c4,c5,.cells [.lst [] .nil] 173]) fun r H'=>r=.ret y∧H'=iE e ++[tkO s,c4,c5,.cells [xE (TA.avs s) 4 3] 173]:=by
 have m1:bC 0 (.map (bZ e.by_ 0) e.by_.length):=eP 0 _ _;have m2:bC 0 (.map (gG e.empty 0) e.empty.length):=fP 0 _ _
 have hp:Part (iE e ++[.dead,c4,c5,.cells [.lst [] .nil] 173]) [6,3,0,1,2] (tkC []::tkO []::nL e):=by
  refine⟨by decide,rfl,fun k i o hk ho=>?_⟩
  match k,hk,ho with
  |0,hk,ho=>cases hk;cases ho;rfl
  |1,hk,ho=>cases hk;cases ho;rfl
  |2,hk,ho=>cases hk;cases ho;rw[dD m1];rfl
  |3,hk,ho=>cases hk;cases ho;rw[dD m2];rfl
  |4,hk,ho=>cases hk;cases ho;rfl
  |k+5,hk,ho=>cases hk
 have hf:=aC.mW h [6,3,0,1,2] hp (.inr fun r H' hq=>by rw[hq.2];exact Nat.le_refl 5)
 have ha:[au.ptr 4 0,tv,.fn (.func 199) [] [.ptr 0 0]].map (ren (nameOf [6,3,0,1,2] (iE e ++[.dead,c4,c5,.cells [.lst [] .nil] 173]).length))=[.ptr 2 0,tv,.fn (.func 199) [] [.ptr 6 0]]:=by
  rw[List.map_cons,List.map_cons,jo lt];rfl
 rw[ha]at hf;refine hf.mono fun r H' ⟨r1,H1',⟨e1,e2⟩,_,e3,e4⟩=>?_
 subst e1 e2;refine⟨by rw[e3];exact congrArg fF.ret (jo ly),?_⟩;rw[e4]
 have q1:jy (nameOf [6,3,0,1,2] (iE e ++[.dead,c4,c5,.cells [.lst [] .nil] 173]).length) (tkC s)=.cells [xE (TA.avs s) 4 3] 173:=by
  unfold tkC;cases TA.avs s<;>rfl
 have q2:=dD (ρ:=nameOf [6,3,0,1,2] (iE e ++[.dead,c4,c5,.cells [.lst [] .nil] 173]).length) (RI s);have q3:=dD (ρ:=nameOf [6,3,0,1,2] (iE e ++[.dead,c4,c5,.cells [.lst [] .nil] 173]).length) m1;have q4:=dD (ρ:=nameOf [6,3,0,1,2] (iE e ++[.dead,c4,c5,.cells [.lst [] .nil] 173]).length) m2;unfold nL;rw[show([6,3,0,1,2]:List Nat).length=5 from rfl];simp only[List.take_succ_cons,List.take_zero,List.drop_succ_cons,List.drop_zero,List.map_cons,List.map_nil,q1,q2,q3,q4,List.append_nil];rfl
theorem Tv (h t:TA) (he:kL h=some t):t∈h.l:=by
 unfold kL at he;split at he
 ·exact List.mem_of_getElem? he
 ·cases he
noncomputable def Lh (e:eu) (t:TA):List TA:=if(gB kL [] (hdE e t)).2=0 then(lM ng [] [] (hdE e t)).2 else[]
theorem OQ (F:zy T) {by_:List (Bytes×TA)} {e:eu} {C:List TA} (W:lC by_ e C) {t:TA} (ht:GC' C t) (hw:wtL (hdE e t)≤2^26):
  EK T.L 157 [t.av] e (.tup [.lst (TA.avs (Lh e t)) .none,(gives kL (hdE e t)).1.av,.int .i64 (gives kL (hdE e t)).2]):=by
 have hn:∀h∈hdE e t,NT h∧wtT h≤2^30:=fun h hh=>W.Hr ht hh
 have hE:=FN F.ME (Xy F) (W.Dk F.toyj ht) hn (Sm W ht) [] (Nat.zero_le _);rw[DK (part:=kL) fun _ _=>rfl]at hE;have hd:=W.Sl ht
 have hJ:(gB kL [] (hdE e t)).2=0→okN (.mk 7 [] [] (gB kL [] (hdE e t)).1):=fun h0=>by
  rcases Classical.em (dG∈hdE e t)with h|h
  ·rw[Sn W ht h]at h0;cases h0
  ·have k4:∀h∈hdE e t,h.kind≠4:=fun x hx h4=>h (by rw[←(hd.1 x hx).1.Ac h4];exact hx)
   by_cases hp:∃h∈hdE e t,kL h=none
   ·rw[y8 _ _ k4 hp]at h0;cases h0
   ·rw[wF _ _ k4 fun x hx=>by
     cases hq:kL x with
     |none=>exact absurd ⟨x,hx,hq⟩ hp
     |some _=>rfl]
    exact XP Tv (fun h hh=>(hn h hh).1) hw
 have hJ:=fun h=>Ak F.tovJ _ (hJ h)
 unfold gives Lh;generalize gB kL [] (hdE e t)=r at hE hJ;generalize (lM ng [] [] (hdE e t)).2=s' at hE;obtain⟨l,how⟩:=r;dsimp only at hE hJ⊢;have hdy:=Km F.MC;have lt:=aU 0 t;have hA:=fun c4 c5=>Tg hE lt (.tup _ (eZ.at ⟨.lst _ _ trivial (aV _ _),.int _ _,trivial⟩)) c4 c5
 clear hE;have lo:Low 3 (.tup [.lst (TA.avs (if how=0 then s' else[])) .none,(if how=0 then(jr l,0)else(dG,how)).1.av,.int .i64 ((if how=0 then(jr l,0)else(dG,how)).2:Nat)]):=.tup _ (eZ.at ⟨.lst _ _ trivial (aV _ _),aU _ _,.int _ _,trivial⟩);refine EK.of 1 lo (aC.freeze (aG F.Xc (by simp[Uw]) ?_));obtain⟨tk,tn,ts,tl⟩:=t
 by_cases h0:how=0
 ·subst h0
  have hJ:=hJ rfl;rw[if_pos rfl,if_pos rfl];generalize jr l=u at hJ;obtain⟨uk,un,us,ul⟩:=u;unfold tkO at hA;generalize TA.avs s'=X at hA;conv=>whnf
  refine(hA _ _).mono fun r H' ⟨e1,e2⟩=>?_
  subst e1 e2
  cases X with
  |nil=>
   conv=>whnf
   refine hJ.to ?_;conv=>whnf
   refine⟨⟨rfl,trivial⟩,?_⟩;conv=>whnf
   exact .inl ⟨_,_,rfl,Weak.tup ⟨Weak.tok _ _,Weak.refl _,Weak.refl _,trivial⟩,rfl⟩
  |cons x X=>
   conv=>whnf
   refine hJ.to ?_;conv=>whnf
   refine⟨⟨rfl,trivial⟩,?_⟩;conv=>whnf
   refine .inr ⟨3,x::X,175,4,.ret (.tup [.lst (x::X) .none,(TA.mk uk un us ul).av,.int .i64 0]),rfl,?_,⟨_,_,rfl,Weak.refl _,rfl⟩⟩;exact kM.tup ⟨kM.froze,kM.refl _,kM.refl _,trivial⟩
 ·rw[if_neg h0,if_neg h0]
  generalize TA.avs s'=X at hA;conv=>whnf
  refine(hA _ _).mono fun r H' ⟨e1,e2⟩=>?_
  subst e1 e2;conv=>whnf
  rw[show((how:Int) !=0)=true from by simpa using h0];conv=>whnf
  refine hdy.to ?_;conv=>whnf
  exact .inl ⟨_,_,rfl,Weak.tup ⟨Weak.tok _ _,Weak.refl _,Weak.refl _,trivial⟩,rfl⟩
end Go.Ag
/- Laws of the greatest sound relation: it is transitive, goes into the loose one, and takes unions, records and functions apart. -/
namespace Go.Ag
open Go
section
variable {G : TA → Prop} {hd : TA → List TA}
end
variable {by_ : List (Bytes × TA)} {e : eu} {C : List TA}
def jG (s t:TA):TA:=.mk 5 [] [[106],[107]] [s,t]
def mH (s t:TA):TA:=.mk 6 [] [] [s,t]
theorem g_j :jC [106]:=⟨by decide,by decide,by decide,by decide,by decide⟩
theorem g_k :jC [107]:=⟨by decide,by decide,by decide,by decide,by decide⟩
theorem RY (s t:TA):(jG s t).kind≠7∧(jG s t).kind≠8:=⟨by simp[jG,TA.kind],by simp[jG,TA.kind]⟩
theorem RZ (s t:TA):(mH s t).kind≠7∧(mH s t).kind≠8:=⟨by simp[mH,TA.kind],by simp[mH,TA.kind]⟩
theorem Xm {s t:TA} (hs:GT s) (h:GT t):GT (jG s t):=.rcd _ _ (by decide) rfl (fun x hx=>by
 rcases List.mem_cons.1 hx with rfl|hx
 ·exact g_j
 ·rw[List.mem_singleton]at hx;subst hx;exact g_k) (MF hs h)
theorem Xn {s t:TA} (hs:GT s) (h:GT t):GT (mH s t):=.fn _ _ hs h
theorem Pv (s t:TA):aM (jG s t)=jG (aM s) (aM t):=by unfold jG;rw[aM,if_neg (by decide),eB];rfl
theorem Pw (s t:TA):aM (mH s t)=mH (aM s) (aM t):=by unfold mH;rw[aM,if_neg (by decide),eB];rfl
theorem U9 (s t:TA):wtT (jG s t)≤wtT s+wtT t+80:=by unfold jG;rw[wtT,wtL,wtL,wtL];simp;omega
theorem Va (s t:TA):wtT (mH s t)≤wtT s+wtT t+80:=by unfold mH;rw[wtT,wtL,wtL,wtL];simp;omega
theorem Vg (s t:TA):szT (jG s t)=szT s+szT t+1:=by unfold jG;rw[p8,gI,gI];simp[szL,zu]
theorem Vh (s t:TA):szT (mH s t)=szT s+szT t+1:=by unfold mH;rw[p8,gI,gI];simp[szL,zu]
end Go.Ag
/- What records, functions and others give: the plain law of PartsShapes. -/
namespace Go.Ag
open Go
variable {by_ : List (Bytes × TA)} {e : eu} {C : List TA} {T : Tab}
theorem Rb (p:TA×Bytes):lG [p]=[p]:=by unfold lG;exact List.mergeSort_singleton p
theorem join_one {y:TA} (h:NT y):jr [y]=y:=by
 rw[joinN fun t ht=>by rw[List.mem_singleton]at ht;subst ht;exact h]
 by_cases h7:y.kind=7
 ·have hi:=gK h
  have hp:=h.parts
  obtain⟨l,rfl,hk⟩:∃l,y=.mk 7 [] [] l∧∀t∈l,t.kind≠7:=by
   cases h with
   |uni l _ _ hk _=>exact⟨l,rfl,fun t ht=>(hk t ht).1⟩
   |_=>cases h7
  have hf:aP l=l:=by
   unfold aP
   have:∀m:List TA,(∀t∈m,t.kind≠7)→m.flatMap dV=m:=fun m=>by
    induction m with
    |nil=>intro _;rfl
    |cons a m ih=>
     intro hm;rw[List.flatMap_cons,ih fun t ht=>hm t (by simp[ht])];unfold dV;rw[if_neg (hm a (by simp))];rfl
   exact this l hk
  have h1:jd [TA.mk 7 [] [] l]=jd l:=Lb _ _ (by show [TA.mk 7 [] [] l].flatMap dV=l;simp[dV,TA.kind,TA.l]) hf;rw[h1];rw[aM,if_pos rfl,Jt (l:=l) (fun t ht=>hp t ht)]at hi;exact hi
 ·have hf:aP [y]=[y]:=by unfold aP dV;simp[h7]
  unfold jd;rw[hf]
  by_cases h4:y.kind=4
  ·simp[h4]
  ·simp[h4,eX,Rb,fT,jZ]
theorem NW (W:lC by_ e C) {t u:TA} (ht:GC' C t) (hu:aM t=u) (h7:u.kind≠7) (h8:u.kind≠8):hdE e t=[u]:=by
 have h1:=fun x=>W.YB (x:=x) ht hu h7 h8
 have h2:=JR e t
 cases hl:hdE e t with
 |nil=>have:=(h1 u).2 rfl;rw[hl]at this;cases this
 |cons a l=>
  rw[hl]at h1 h2;have ha:a=u:=(h1 a).1 (by simp);subst ha
  cases l with
  |nil=>rfl
  |cons b l=>
   have hb:b=a:=(h1 b).1 (by simp);subst hb;exact absurd (List.mem_cons_self) (List.nodup_cons.1 h2).1
theorem rec_j {x y:TA} (h:NT x):gives (cZ [106]) [jG x y]=(x,0):=by
 have e0:uw [[106],[107]] [106]=0:=by decide
 have:gB (cZ [106]) [] [jG x y]=([x],0):=by simp[gB,jG,cZ,TA.kind,TA.names,TA.l,e0]
 unfold gives;rw[this,if_pos rfl,join_one h]
theorem XK {x y:TA} (h:NT y):gives (cZ [107]) [jG x y]=(y,0):=by
 have e0:uw [[106],[107]] [107]=1:=by decide
 have:gB (cZ [107]) [] [jG x y]=([y],0):=by simp[gB,jG,cZ,TA.kind,TA.names,TA.l,e0]
 unfold gives;rw[this,if_pos rfl,join_one h]
theorem rec_i (x y:TA):gives (cZ [105]) [jG x y]=(dG,2):=by
 have:gB (cZ [105]) [] [jG x y]=([],2):=by simp[gB,jG,cZ,TA.kind,TA.names]
 unfold gives;rw[this];rfl
theorem fun_f (x y:TA) (nm:Bytes):gives (cZ nm) [mH x y]=(dG,2):=by
 have:gB (cZ nm) [] [mH x y]=([],2):=by simp[gB,mH,cZ,TA.kind]
 unfold gives;rw[this];rfl
theorem int_f (nm:Bytes):gives (cZ nm) [.mk 1 [] [] []]=(dG,2):=by
 have:gB (cZ nm) [] [.mk 1 [] [] []]=([],2):=by simp[gB,cZ,TA.kind]
 unfold gives;rw[this];rfl
theorem fun_c {x y:TA} (h:NT y):gives kL [mH x y]=(y,0):=by
 have:gB kL [] [mH x y]=([y],0):=by simp[gB,mH,kL,TA.kind,TA.l]
 unfold gives;rw[this,if_pos rfl,join_one h]
theorem rec_c (x y:TA):gives kL [jG x y]=(dG,2):=by
 have:gB kL [] [jG x y]=([],2):=by simp[gB,jG,kL,TA.kind]
 unfold gives;rw[this];rfl
structure PSh (T:Tab) (en:eu) (x y x' y':TA):Prop where
 k:EK T.L 156 [(jG x y).av,.str [107]] en (.tup [y'.av,.int .i64 0])
 i:EK T.L 156 [(jG x y).av,.str [105]] en (.tup [dG.av,.int .i64 2])
 f:EK T.L 156 [(mH x y).av,.str [107]] en (.tup [dG.av,.int .i64 2])
 n:EK T.L 156 [(TA.mk 1 [] [] []).av,.str [107]] en (.tup [dG.av,.int .i64 2])
 c:EK T.L 157 [(mH x y).av] en (.tup [.lst (TA.avs [x']) .none,y'.av,.int .i64 0])
 m:EK T.L 157 [(jG x y).av] en (.tup [.lst [] .none,dG.av,.int .i64 2])
 r:EK T.L 173 [(jG x y).av] en (.lst [.str [106],.str [107]] .none)
 g:EK T.L 173 [(mH x y).av] en (.lst [] .none)
 d:EK T.L 173 [dG.av] en (.lst [] .none)
structure UW (T:Tab):Prop extends zy T,Ed T
theorem Yf (F:UW T) (W:lC by_ e C) {x y:TA} (gx:GT x) (gy:GT y) (hr:GC' C (jG x y)) (hf:GC' C (mH x y)) (hi:GC' C (.mk 1 [] [] [])) (hd:GC' C dG)
  (wr:wtL (hdE e (jG x y))≤2^26) (wf:wtL (hdE e (mH x y))≤2^26) (wi:wtL (hdE e (.mk 1 [] [] []))≤2^26) (wd:wtL (hdE e dG)≤2^26):PSh T e x y (aM x) (aM y):=by
 have nx:=lI gx;have ny:=lI gy;have er:hdE e (jG x y)=[jG (aM x) (aM y)]:=NW W hr (Pv x y) (RY _ _).1 (RY _ _).2;have ef:hdE e (mH x y)=[mH (aM x) (aM y)]:=NW W hf (Pw x y) (RZ _ _).1 (RZ _ _).2;have ei:hdE e (.mk 1 [] [] [])=[.mk 1 [] [] []]:=NW W hi (gK .int) (by decide) (by decide);have ed:hdE e dG=[dG]:=NW W hd (gK .dyn) (by decide) (by decide);have a1:=l7 F.towN W hr wr [107];have a2:=l7 F.towN W hr wr [105];have a3:=l7 F.towN W hf wf [107];have a4:=l7 F.towN W hi wi [107];have a5:=OQ F.tozy W hf wf;have a6:=OQ F.tozy W hr wr;have a7:=vL F.toEd W hr wr;have a8:=vL F.toEd W hf wf;have a9:=vL F.toEd W hd wd;unfold Lh at a5 a6;unfold Hz Ry at a7 a8 a9;rw[er]at a1 a2 a6 a7;rw[ef]at a3 a5 a8;rw[ei]at a4;rw[ed]at a9;rw[XK ny]at a1;rw[rec_i]at a2;rw[fun_f]at a3;rw[int_f]at a4;rw[fun_c ny]at a5;rw[rec_c]at a6
 have t5:(if(gB kL [] [mH (aM x) (aM y)]).2=0 then(lM ng [] [] [mH (aM x) (aM y)]).2 else[])=[aM x]:=by
  simp[gB,lM,ng,mH,kL,fstP,TA.kind,TA.l]
 have t6:(if(gB kL [] [jG (aM x) (aM y)]).2=0 then(lM ng [] [] [jG (aM x) (aM y)]).2 else[])=[]:=by
  simp[gB,jG,kL,TA.kind]
 rw[t5]at a5;rw[t6]at a6
 have t7:([jG (aM x) (aM y)].headD dG).names.filter (fun nm=> !(((gives (cZ nm) [jG (aM x) (aM y)]).2:Int) !=0))=[[106],[107]]:=by
  show [[106],[107]].filter _=_;simp[rec_j nx,XK ny]
 rw[t7]at a7;exact⟨a1,a2,a3,a4,a5,a6,a7,a8,a9⟩
theorem U7 (F:vJ T) (Qf:T.has 158 OD) {a b:TA} (ha:GT a) (hb:GT b) (wa:wtT a≤2^30) (wb:wtT b≤2^30):Pure T.L 158 [a.av,b.av] (.bool (prT (aM a) 0==prT (aM b) 0)):=by
 have tx:=fun{u:TA} (hu:GT u) (wu:wtT u≤2^30)=>Gb F u (CK hu wu) (by have:=og u;omega) (lI hu).wf
 have xa:=tx ha wa;have xb:=tx hb wb;generalize prT (aM a) 0=s at xa;generalize prT (aM b) 0=u at xb;refine Pure.run (eZ.at ⟨aU _ _,aU _ _,trivial⟩) (.bool _) (aG Qf (by simp[OD]) ?_);obtain⟨ak,an,aaC,al⟩:=a;obtain⟨bk,bn,bs,bl⟩:=b;conv=>whnf
 refine xa.to ?_;conv=>whnf
 refine⟨⟨rfl,trivial⟩,?_⟩;refine xb.to ?_;conv=>whnf
 exact aH (Weak.refl _)
end Go.Ag

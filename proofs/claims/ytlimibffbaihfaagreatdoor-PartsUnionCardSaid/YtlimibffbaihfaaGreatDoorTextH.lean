/- Our texts, joined by a program of ours (join.py): part 8 of 9. -/
import Derived.Test.YtlimibffbaihfaaGreatDoorTextG
import Derived.Deep.Draws
import Derived.Lib.IndexMore
import Derived.Lib.Join
import Derived.Lib.Bytealg
import Derived.Laws.AppendOwn
import Derived.Sort.EncStr
import Derived.Sort.Grow
import Derived.Sort.Row
import Derived.Shelf.GgSortFunc.InsertionK
import Derived.Lib.ParseIntB
import Derived.Lib.AtoiErrMem
set_option linter.unusedVariables false
/- Package cupellaw08: Small, Made. -/
namespace Go.Ag
open Go
variable {T : Tab} {L : Lnk}
structure zT (T:Tab):Prop extends zV T,zS T,zP T,UH T where
 Sl:T.has 147 OC
 WS:T.has 148 Us
 Ka:T.has 190 Oz
def N9 (d:dZ):Bytes×TA:=(d.name,d.ts.headD jE)
def kV (l:List dZ):List (Bytes×TA):=(l.filter (·.kind==2)).map N9
theorem Kv (l:List dZ) (j:Nat) (h:j<l.length):kV (l.take (j+1))=if l[j].kind==2 then kV (l.take j) ++[N9 l[j]]else kV (l.take j):=by
 rw[List.take_succ_eq_append_getElem h];unfold kV;rw[List.filter_append];cases hk:l[j].kind==2
 ·rw[if_neg (by simp),show [l[j]].filter (·.kind==2)=[]from by simp[List.filter,hk],List.append_nil]
 ·rw[if_pos rfl,show [l[j]].filter (·.kind==2)=[l[j]]from by simp[List.filter,hk],List.map_append]
  rfl
theorem I9 (l:List (Bytes×TA)):dD 5 (gG l):=fun x hx=>by
 obtain⟨⟨nm,⟨k,tn,ns,tl⟩⟩,_,rfl⟩:=List.mem_map.1 hx;exact⟨rfl,rfl⟩
theorem wT (l:List (Bytes×TA)):(gG l).length=l.length:=by simp[gG]
theorem MO (l:List (Bytes×TA)) (p:Bytes×TA):gG (l ++[p])=gG l ++[xD p]:=by simp[gG]
def jr (l:List (Bytes×TA)):Nat:=(l.map fun p=>szT p.2).sum
theorem M5 (F:zT T) (l:List (Bytes×TA)) (hl:l.length≤2^30) (hw:∀p∈l,wtT p.2≤2^30) (tk:Tok) (htk:nL 0 tk):Pure T.L 148 [.lst (gG l) tk] (.bool (decide (jr l≤60))):=by
 refine Pure.run (dI (.lst _ _ htk (sU 0 l))) (.bool _) (aI F.WS (by simp[Us]) ?_)
 have hsum:∀j,j≤l.length→jr (l.take j)≤j*2^30:=fun j=>by
  induction j with
  |zero=>intro _;simp[jr]
  |succ j ih=>
   intro h;have h1:=ih (by omega);rw[List.take_succ_eq_append_getElem (by omega)];unfold jr at h1⊢;rw[List.map_append,List.sum_append_nat,List.map_singleton,List.sum_singleton];have h2:=hw _ (List.getElem_mem (show j<l.length by omega));have h3:=Cn _ l[j].2 (Nat.le_refl _);unfold szT at*;omega
 conv=>whnf
 intro I hI hG
 have key:∀(d j:Nat) (e:Env),l.length-j=d→j≤l.length→I (gT e [(0,.lst (gG l) tk),(3,.int .i64 ((jr (l.take j):Nat):Int)),(4,.int .i64 j)]) []:=by
  intro d
  induction d with
  |zero=>
   intro j e hd hj;have hjl:j=l.length:=by omega
   apply hI;conv=>whnf
   rw[show decide (((j:Nat):Int)<(((gG l).length:Nat):Int))=false from by rw[wT,hjl];simp];conv=>whnf
   rw[hjl,List.take_length,show decide (((jr l:Nat):Int)≤60)=decide (jr l≤60)from by
    by_cases h:jr l≤60
    ·rw[decide_eq_true h,decide_eq_true (by omega)]
    ·rw[decide_eq_false h,decide_eq_false (by omega)]]
   exact aH (Weak.refl _)
  |succ d ihd=>
   intro j e hd hj;have hjl:j<l.length:=by omega
   have hget:=Kw hjl;have hnext:=fun e=>ihd (j+1) e (by omega) hjl
   have hs1:=hsum j hj;have hs2:=hsum (j+1) hjl
   have hst:jr (l.take (j+1))=jr (l.take j)+szT l[j].2:=by
    rw[List.take_succ_eq_append_getElem hjl];unfold jr;rw[List.map_append,List.sum_append_nat,List.map_singleton,List.sum_singleton]
   rw[hst]at hnext hs2;have hwj:=hw _ (List.getElem_mem hjl);have hc:=u7 F.Ka _ l[j].2 (Nat.lt_succ_self _) (by omega);have hb:(j+1)*2^30≤2^30*2^30:=Nat.mul_le_mul_right _ (by omega);generalize l[j]=v at hget hc hnext hs2 hwj;generalize jr (l.take j)=m at hnext hs2 hs1⊢;apply hI;obtain⟨nm,⟨vk,vn,vs,vl⟩⟩:=v;conv=>whnf
   rw[show decide (((j:Nat):Int)<(((gG l).length:Nat):Int))=true from by rw[wT];simp;omega];conv=>whnf
   refine step_elem (Int.natCast_nonneg _) hget rfl ?_;conv=>whnf
   refine⟨Nat.le_of_ble_eq_true rfl,?_⟩;conv=>whnf
   refine hc.to ?_;conv=>whnf
   refine inv_of [(0,.lst (gG l) tk),(3,.int .i64 ((m+szT (.mk vk vn vs vl):Nat):Int)),(4,.int .i64 (j+1:Nat))] ⟨rfl,?_,add1 (by omega),trivial⟩ (hnext _);show aA.int .i64 (IntKind.i64.wrap (((m:Nat):Int)+((szT (.mk vk vn vs vl):Nat):Int)))=_;rw[IntWalk.i64_in _ (by dsimp only at hs2;omega)]
   congr 1
 exact inv_of [(0,.lst (gG l) tk),(3,.int .i64 0),(4,.int .i64 0)] ⟨rfl,rfl,rfl,trivial⟩ (key l.length 0 _ rfl (Nat.zero_le _))
theorem Xb {l:List dZ} {i:Nat} (h:i<l.length):(l.map dZ.av)[((i:Nat):Int).toNat]?=some l[i].av:=by
 simp[List.getElem?_map,List.getElem?_eq_getElem h]
def gV (src:Bytes):List (Bytes×TA):=kV (gN src).1
theorem tQ (src:Bytes) (hs:src.length≤600):∀p∈gV src,kC p.1∧GT p.2∧wtT p.2≤2^19:=fun p hp=>by
 unfold gV kV at hp;obtain⟨d,hd,rfl⟩:=List.mem_map.1 hp;obtain⟨h1,h2⟩:=List.mem_filter.1 hd;obtain⟨hn,t,ht,hg,hw⟩:=Dg src (by omega) d h1 (by simpa using h2);unfold N9;rw[ht];have:(src.length+82)*(src.length+1)≤682*601:=Nat.mul_le_mul (by omega) (by omega);exact⟨hn,hg,Nat.le_trans hw (by omega)⟩
theorem Ba (src:Bytes) (hs:src.length≤600):(gV src).length≤2^30:=by
 unfold gV kV;rw[List.length_map];refine Nat.le_trans (List.length_filter_le _ _) ?_;obtain⟨hok,hlen,hdl⟩:=mU src (by omega);have Aq:(bC src).rem≤src.length+1:=by unfold RS.rem;omega
 have hp:(bC src).pot≤(bC src).diags.length+2*(bC src).toks.length+1:=by
  unfold RS.pot;split<;>omega
 have:=(nZ (oL src) (bC src).rem [] (bC src) ⟨hok.lt,hok.more,hok.len,hok.txt,by omega,hok.named,hok.num⟩ rfl (Nat.le_refl _) (fun d hd=>by cases hd)).2;unfold gN;simp at this;omega
theorem FC :∀{l:List (Bytes×TA)} {p:Bytes×TA},p∈jA l→∃q∈l,p=(q.1,aW q.2):=fun{l p}=>by
 have key:∀(l B:List (Bytes×TA)),p∈l.foldl oO B→p∈B∨∃q∈l,p=(q.1,aW q.2):=fun l=>by
  induction l with
  |nil=>exact fun B h=>.inl h
  |cons q l ih=>
   intro B h;rcases ih _ h with h|⟨r,hr,e⟩
   ·unfold oO at h
    split at h
    ·exact .inl h
    ·rcases List.mem_append.1 h with h|h
     ·exact .inl h
     ·rw[List.mem_singleton]at h;exact .inr ⟨q,by simp,h⟩
   ·exact .inr ⟨r,by simp[hr],e⟩
 intro h;rcases key l [] h with h|h
 ·cases h
 ·exact h
theorem QI (F:zT T) (src:Bytes) (hs:src.length≤600):aD T.L 147 [.str src] [] fun r H'=>∃e o0 o1,mJ (jA (gV src)) e∧bE 0 o0∧bE 0 o1∧r=.ret (.tup [.ptr 4 0,.lst (gG (gV src)) .none,.bool (decide ((gV src).length≤8))])∧
  H'=[o0,o1,.map (dh e.by_ 0) e.by_.length,.map (gP e.empty 0) e.empty.length,.cells [.map 2,.map 3] 234]:=by
 have hD:=tQ src hs;have hDl:=Ba src hs;have hP:=M7 F.tozS src (by omega);have hP5:=G9 F.toUH src (by omega);have hG:=Dg src (by omega);have hPl:(gN src).1.length≤2^33:=(Jt src (by omega)).2
 have hnew:=UL F.tozV (gV src) hDl (fun p hp=>Dh (hD p hp).2.1 (by have:=(hD p hp).2.2;omega)) (fun p hp=>by
  obtain⟨q,hq,rfl⟩:=FC hp;have h1:=(hD q hq).2.2;have h2:=qy q.2;dsimp only
  omega)
 unfold gV at*;generalize (gN src).2.diags.map bO.av=DG at hP hP5;generalize (gN src).1=l at*;refine aD.Gb 2 ?_
 refine aD.cut (aD.mono (Q:=fun r H'=>∃e o0 o1 tk J,mJ (jA (kV l)) e∧bE 0 o0∧bE 0 o1∧r=.ret (.tup [.ptr 4 0,.lst (gG (kV l)) tk,.bool (decide ((kV l).length≤8))])∧
  H'=[o0,o1,.map (dh e.by_ 0) e.by_.length,.map (gP e.empty 0) e.empty.length,.cells [.map 2,.map 3] 234] ++J) ?_ fun r H' ⟨e,o0,o1,tk,J,e1,h0,h1,e2,e3⟩=>⟨.ret (.tup [.ptr 4 0,.lst (gG (kV l)) .none,.bool (decide ((kV l).length≤8))]),[o0,o1,.map (dh e.by_ 0) e.by_.length,.map (gP e.empty 0) e.empty.length,.cells [.map 2,.map 3] 234],J,e3,by rw[e2];exact Weak.tup ⟨Weak.refl _,Weak.tok _ _,Weak.refl _,trivial⟩,.tup _ (fT.at ⟨.ptr _ _ (show 4<5 by decide),.lst _ _ trivial (sU _ _),.bool _,trivial⟩),Nat.le_of_ble_eq_true rfl,
   fU.at ⟨aJ (Nat.zero_le _) h0,aJ (Nat.zero_le _) h1,fH 5 _ _,gK 5 _ _,eB ⟨.map _ (show 2<5 by decide),.map _ (show 3<5 by decide),trivial⟩,trivial⟩,e,o0,o1,e1,h0,h1,rfl,rfl⟩)
 refine aI F.Sl (by simp[OC]) ?_;have h1:decide ((src.length:Int)>600)=false:=decide_eq_false (by omega);conv=>whnf
 rw[h1];conv=>whnf
 refine hP.to ?_;conv=>whnf
 refine hP5.to ?_;conv=>whnf
 intro I hI hGC
 have key:∀(d j:Nat) (XS:List aA) (e:Env),l.length-j=d→j≤l.length→XS=gG (kV (l.take j))→XS.length≤j→
   I (gT e [(5,.lst (l.map dZ.av) .none),(7,.lst (l.map dZ.av) .none),(9,.lst XS (bG XS.length 0)),(10,.lst XS (bG XS.length 1)),(11,.int .i64 j)]) [bA XS.length 182,bA XS.length 244]:=by
  intro d
  induction d with
  |zero=>
   intro j XS e hd hj hX hXl;have hjl:j=l.length:=by omega
   rw[hjl,List.take_length]at hX;have hlen:XS.length=(kV l).length:=by rw[hX,wT]
   apply hI;conv=>whnf
   rw[show decide (((j:Nat):Int)<(((l.map dZ.av).length:Nat):Int))=false from by rw[List.length_map,hjl];simp];conv=>whnf
   rw[hX];refine(hnew _ _).mono fun r H' ⟨e,hok,e1,e2⟩=>?_
   subst e1 e2;conv=>whnf
   rw[show decide ((((gG (kV l)).length:Nat):Int)≤8)=decide ((kV l).length≤8)from by
    rw[wT]
    by_cases h:(kV l).length≤8
    ·rw[decide_eq_true h,decide_eq_true (by omega)]
    ·rw[decide_eq_false h,decide_eq_false (by omega)]]
   exact⟨e,_,_,_,[],hok,bq _ _ _,bq _ _ _,rfl,rfl⟩
  |succ d ihd=>
   intro j XS e hd hj hX hXl;have hjl:j<l.length:=by omega
   have hnext:=fun YS e h1 h2=>ihd (j+1) YS e (by omega) hjl h1 h2
   rw[Kv l j hjl]at hnext;have hget:=Xb hjl;have hg:=hG _ (List.getElem_mem hjl);generalize l[j]=v at hget hnext hg;obtain⟨vk,vp,vn,vts,ves⟩:=v;apply hI;conv=>whnf
   rw[show decide (((j:Nat):Int)<(((l.map dZ.av).length:Nat):Int))=true from by rw[List.length_map];simp;omega];conv=>whnf
   refine step_elem (Int.natCast_nonneg _) hget rfl ?_;conv=>whnf
   refine⟨Nat.zero_le _,?_⟩;conv=>whnf
   dsimp only at hnext;cases hk:(vk==2)
   ·rw[hk,if_neg (by simp)]at hnext
    conv=>whnf
    exact inv_of [(5,.lst (l.map dZ.av) .none),(7,.lst (l.map dZ.av) .none),(9,.lst XS (bG XS.length 0)),(10,.lst XS (bG XS.length 1)),(11,.int .i64 (j+1:Nat))] ⟨rfl,rfl,rfl,rfl,add1 (show j+1<9223372036854775808 by omega),trivial⟩ (hnext XS _ hX (by omega))
   ·obtain⟨hn,t,ht,_,_⟩:=hg (by simpa using hk)
    dsimp only at ht;subst ht;rw[hk,if_pos rfl]at hnext;have hdef:N9 ⟨vk,vp,vn,[t],ves⟩=(vn,t):=rfl;rw[hdef,MO,←hX]at hnext;have sX:dD 5 XS:=by rw[hX];exact I9 _
    obtain⟨tk,tn,tns,tl⟩:=t
    have app0:∀{H:Heap} {K:aA→Heap→Prop} {tk0:Tok},H[0]?=some (bA XS.length 182)→K (.lst (XS ++[xD (vn,.mk tk tn tns tl)]) (bG (XS ++[xD (vn,.mk tk tn tns tl)]).length 0)) (H.set 0 (bA (XS ++[xD (vn,.mk tk tn tns tl)]).length 182))→mP 5 88 182 (.lst XS (bG XS.length 0)) (.lst [xD (vn,.mk tk tn tns tl)] tk0) H K:=
     fun h1 h2=>dQ sX (bP rfl) (by simp;omega) (by simp;omega) (by simp) h1 h2
    have app1:∀{H:Heap} {K:aA→Heap→Prop} {tk0:Tok},H[1]?=some (bA XS.length 244)→K (.lst (XS ++[xD (vn,.mk tk tn tns tl)]) (bG (XS ++[xD (vn,.mk tk tn tns tl)]).length 1)) (H.set 1 (bA (XS ++[xD (vn,.mk tk tn tns tl)]).length 244))→mP 5 88 244 (.lst XS (bG XS.length 1)) (.lst [xD (vn,.mk tk tn tns tl)] tk0) H K:=
     fun h1 h2=>dQ sX (bP rfl) (by simp;omega) (by simp;omega) (by simp) h1 h2
    have hnext:=fun e=>hnext (XS ++[xD (vn,.mk tk tn tns tl)]) e rfl (by simp;omega)
    clear hX;conv=>whnf
    refine step_elem (Int.natCast_nonneg _) hget rfl ?_;conv=>whnf
    refine⟨Nat.le_of_ble_eq_true rfl,?_⟩;conv=>whnf
    refine step_elem (Int.natCast_nonneg _) hget rfl ?_;conv=>whnf
    refine⟨Nat.le_of_ble_eq_true rfl,?_⟩;conv=>whnf
    refine⟨Int.le_refl 0,?_⟩;conv=>whnf
    refine⟨rfl,?_⟩;conv=>whnf
    refine app0 rfl ?_;conv=>whnf
    refine step_elem (Int.natCast_nonneg _) hget rfl ?_;conv=>whnf
    refine⟨Nat.le_of_ble_eq_true rfl,?_⟩;conv=>whnf
    refine step_elem (Int.natCast_nonneg _) hget rfl ?_;conv=>whnf
    refine⟨Nat.le_of_ble_eq_true rfl,?_⟩;conv=>whnf
    refine⟨Int.le_refl 0,?_⟩;conv=>whnf
    refine⟨rfl,?_⟩;conv=>whnf
    refine app1 rfl ?_;conv=>whnf
    exact inv_of [(5,.lst (l.map dZ.av) .none),(7,.lst (l.map dZ.av) .none),(9,.lst (XS ++[xD (vn,.mk tk tn tns tl)]) (bG (XS ++[xD (vn,.mk tk tn tns tl)]).length 0)),(10,.lst (XS ++[xD (vn,.mk tk tn tns tl)]) (bG (XS ++[xD (vn,.mk tk tn tns tl)]).length 1)),(11,.int .i64 (j+1:Nat))] ⟨rfl,rfl,rfl,rfl,add1 (by omega),trivial⟩ (hnext _)
 exact inv_of [(5,.lst (l.map dZ.av) .none),(7,.lst (l.map dZ.av) .none),(9,.lst [] .nil),(10,.lst [] .nil),(11,.int .i64 0)] ⟨rfl,rfl,rfl,rfl,rfl,trivial⟩ (key l.length 0 [] _ rfl (Nat.zero_le _) rfl (Nat.zero_le _))
end Go.Ag
/- How many parts a type is spread to, by sizes; environments of small definitions; what a type stands for. -/
namespace Go.Ag
open Go
variable {T : Tab} {L : Lnk} {by_ : List (Bytes × TA)} {e : fJ} {C : List TA}
theorem GH (l:List TA):szL l=(l.map szT).sum:=by
 induction l with
 |nil=>rfl
 |cons t l ih=>rw[iG,List.map_cons,List.sum_cons,ih]
theorem O7 (t:TA):szL (dS t)≤szT t:=by
 obtain⟨k,nm,ns,l⟩:=t;unfold dS;split
 ·rw[rT];exact Nat.le_succ _
 ·rw[iG];exact Nat.le_refl _
theorem Lm (a b:List TA):szL (a ++b)=szL a+szL b:=by simp[GH]
theorem U0 (l:List TA):szL (aN l)≤szL l:=by
 induction l with
 |nil=>exact Nat.le_refl _
 |cons t l ih=>
  have h1:aN (t::l)=dS t ++aN l:=by unfold aN;rw[List.flatMap_cons]
  rw[h1,Lm,iG];have:=O7 t;omega
theorem O6 (l:List TA):szL (iy l)≤szL l:=by
 unfold iy;rw[GH,List.map_map];have h1:=A8 (fun p:TA×Bytes=>szT p.1) (Kz (mV (fA l)));have h2:=((nM (fA l)).map fun p:TA×Bytes=>szT p.1).sum_nat
 have h3:((fA l).map fun p:TA×Bytes=>szT p.1).sum=szL l:=by
  unfold fA;rw[List.map_map,GH];rfl
 have h4:((gH (mV (fA l))).map (szT∘fun x=>x.1)).sum=((gH (mV (fA l))).map fun p:TA×Bytes=>szT p.1).sum:=rfl;omega
theorem O5 (l:List TA):szT (kJ l)≤1+szL l:=by
 rw[mE];have hf:=U0 l;split
 ·rename_i t h
  have:=GI (List.mem_of_find?_eq_some h);omega
 ·have h2:=O6 (aN l)
  unfold oV;split
  ·rename_i t h
   rw[h,iG]at h2;omega
  ·rw[rT];omega
theorem Nk :∀(n:Nat) (t:TA),wtT t≤n→szT (aW t)≤szT t
 |0,t,h=>by have:=BO t;omega
 |n+1,t,h=>by
  obtain⟨k,nm,ns,l⟩:=t
  have hl:∀m:List TA,(∀t∈m,wtT t≤n)→szL (dH m)≤szL m:=fun m=>by
   induction m with
   |nil=>intro _;exact Nat.le_refl _
   |cons t m ih=>
    intro hm;rw[dH,iG,iG];have h1:=Nk n t (hm t (by simp));have h2:=ih fun x hx=>hm x (by simp[hx])
    omega
  have h2:=hl l fun t ht=>by
   have h3:=gU ht;rw[wtT]at h;omega
  rw[aW,rT];split
  ·have:=O5 (dH l)
   omega
  ·rw[rT];omega
theorem IQ (t:TA):szT (aW t)≤szT t:=Nk _ t (Nat.le_refl _)
def ko (f:Bytes→Nat):List Bytes→Nat
 |[]=>1
 |a::l=>f a*ko f l
theorem LU {f:Bytes→Nat} {l m:List Bytes} (h:l.Perm m):ko f l=ko f m:=by
 induction h with
 |nil=>rfl
 |cons a h ih=>rw[ko,ko,ih]
 |swap a b l=>rw[ko,ko,ko,ko,←Nat.mul_assoc,←Nat.mul_assoc,Nat.mul_comm (f b)]
 |trans _ _ h1 h2=>exact h1.trans h2
theorem Fh {f:Bytes→Nat} (hf:∀a,1≤f a):∀l,1≤ko f l
 |[]=>Nat.le_refl _
 |a::l=>Nat.mul_pos (hf a) (Fh hf l)
theorem EY (hE:mJ by_ e) (hnd:(by_.map (·.1)).Nodup):∀n,
  (∀(P Q:List Bytes) (t:TA) (ys:List TA),(by_.map (·.1)).Perm (P ++Q)→(∀p∈P,∀r∈jH t,rR by_ (dP by_ p) r)→bM e n t=some ys→ys.length≤szT t*ko (fun p=>szT (dP by_ p)) Q)∧
  (∀(P Q:List Bytes) (l:List TA) (ys:List TA),(by_.map (·.1)).Perm (P ++Q)→(∀p∈P,∀r∈vW l,rR by_ (dP by_ p) r)→bR e n l=some ys→ys.length≤szL l*ko (fun p=>szT (dP by_ p)) Q)
 |0=>⟨fun P Q t ys _ _ h=>(by rw[bM]at h;cases h),fun P Q l ys _ _ h=>(by rw[bR]at h;cases h)⟩
 |n+1=>by
  obtain⟨h1,h2⟩:=EY hE hnd n;have hpos:∀Q,1≤ko (fun p=>szT (dP by_ p)) Q:=Fh fun a=>GD _
  have hone:∀(t:TA) Q,1≤szT t*ko (fun p=>szT (dP by_ p)) Q:=fun t Q=>Nat.mul_pos (GD t) (hpos Q)
  refine⟨fun P Q t ys hperm hlead h=>?_,fun P Q l ys hperm hlead h=>?_⟩
  ·obtain⟨k,nm,ns,l⟩:=t
   have h0:=hone (.mk k nm ns l) Q;rw[jH]at hlead;rw[bM]at h;split at h
   ·rename_i h8
    rw[if_pos h8]at hlead;split at h
    ·cases h;simp only[List.length_singleton];exact h0
    ·rename_i he
     have hne:¬rX by_ nm:=fun h=>he ((oM hE hnd nm).2 h)
     have hdef:(by_.find? (·.1==nm)).isSome=true:=by
      cases hd:(by_.find? (·.1==nm)).isSome
      ·exact absurd (.inl hd) hne
      ·rfl
     have hkey:=Ki hdef;have hnP:nm∉P:=fun hm=>hne (.inr (hlead nm hm nm (by simp)))
     have hQ:nm∈Q:=by
      rcases List.mem_append.1 (hperm.mem_iff.1 hkey)with h|h
      ·exact absurd h hnP
      ·exact h
     rw[zF,hE.hby]at h;have hp2:(by_.map (·.1)).Perm ((nm::P) ++Q.erase nm):=hperm.trans ((List.Perm.append_left P (List.perm_cons_erase hQ)).trans List.perm_middle)
     have:=h1 (nm::P) (Q.erase nm) (dP by_ nm) ys hp2 (fun p hp r hr=>by
      rcases List.mem_cons.1 hp with rfl|hp
      ·exact .here _ _ hr
      ·exact(hlead p hp nm (by simp)).trans (.here _ _ hr)) h
     rw[LU (List.perm_cons_erase hQ),ko];refine Nat.le_trans this ?_;exact Nat.le_mul_of_pos_left _ (GD _)
   ·rename_i h8
    rw[if_neg h8]at hlead;split at h
    ·rename_i h7
     rw[if_pos h7]at hlead;have:=h2 P Q l ys hperm hlead h;refine Nat.le_trans this (Nat.mul_le_mul_right _ ?_);rw[rT];exact Nat.le_succ _
    ·cases h;simp only[List.length_singleton];exact h0
  ·cases l with
   |nil=>rw[bR]at h;cases h;simp
   |cons t l=>
    rw[bR]at h
    cases hx:bM e n t with
    |none=>rw[hx]at h;cases h
    |some xs=>
     cases hr:bR e n l with
     |none=>rw[hx,hr]at h;cases h
     |some zs=>
      rw[hx,hr]at h;cases h;have k1:=h1 P Q t xs hperm (fun p hp r hr=>hlead p hp r (by rw[vW];exact List.mem_append_left _ hr)) hx;have k2:=h2 P Q l zs hperm (fun p hp r hr=>hlead p hp r (by rw[vW];exact List.mem_append_right _ hr)) hr;rw[iG,List.length_append,Nat.add_mul];exact Nat.add_le_add k1 k2
theorem x_le :∀x:Nat,4*x*7^x≤11*8^x:=fun x=>by
 by_cases h:x<8
 ·have:∀x,x<8→4*x*7^x≤11*8^x:=by decide
  exact this x h
 ·obtain⟨k,rfl⟩:∃k,x=8+k:=⟨x-8,by omega⟩
  clear h
  induction k with
  |zero=>decide
  |succ k ih=>
   rw[←Nat.add_assoc,Nat.pow_succ,Nat.pow_succ];generalize 7^(8+k)=a at ih⊢;generalize 8^(8+k)=b at ih⊢
   have h1:4*(8+k+1)*(a*7)=4*(7*(8+k+1))*a:=by
    rw[Nat.mul_comm a 7,←Nat.mul_assoc,Nat.mul_assoc 4,Nat.mul_comm (8+k+1) 7]
   have h2:4*(7*(8+k+1))*a≤4*(8*(8+k))*a:=Nat.mul_le_mul_right _ (by omega)
   have h3:4*(8*(8+k))*a=8*(4*(8+k)*a):=by
    rw[←Nat.mul_assoc 4,Nat.mul_comm 4 8,Nat.mul_assoc 8,Nat.mul_assoc 8]
   omega
theorem Nu (f:Bytes→Nat):∀l:List Bytes,4^l.length*7^(l.map f).sum*ko f l≤11^l.length*8^(l.map f).sum
 |[]=>by simp[ko]
 |a::l=>by
  have h1:=x_le (f a)
  have h2:=Nu f l
  rw[List.length_cons,List.map_cons,List.sum_cons,ko,Nat.pow_succ,Nat.pow_succ,Nat.pow_add,Nat.pow_add]
  have:=Nat.mul_le_mul h1 h2
  generalize 4^l.length=a1 at*
  generalize 7^(l.map f).sum=a2 at*
  generalize 11^l.length=a3 at*
  generalize 8^(l.map f).sum=a4 at*
  generalize ko f l=a5 at*
  generalize 7^f a=a6 at*
  generalize 8^f a=a7 at*
  generalize f a=x at*
  calc a1*4*(a6*a2)*(x*a5)=4*x*a6*(a1*a2*a5):=by simp only[Nat.mul_assoc,Nat.mul_comm,Nat.mul_left_comm]
   _≤11*a7*(a3*a4):=this
   _=a3*11*(a7*a4):=by simp only[Nat.mul_assoc,Nat.mul_comm,Nat.mul_left_comm]
theorem Vo (f:Bytes→Nat) (l:List Bytes) (hl:l.length≤8) (hs:(l.map f).sum≤60):ko f l≤10000000:=by
 have h:=Nu f l;obtain⟨a,ha⟩:∃a,l.length+a=8:=⟨8-l.length,by omega⟩;obtain⟨b,hb⟩:∃b,(l.map f).sum+b=60:=⟨60-(l.map f).sum,by omega⟩;have h4:4^a≤11^a:=Nat.pow_le_pow_left (by decide) a;have h7:7^b≤8^b:=Nat.pow_le_pow_left (by decide) b;have h2:=Nat.mul_le_mul (Nat.mul_le_mul h4 h7) h
 have e1:4^a*7^b*(4^l.length*7^(l.map f).sum*ko f l)=4^8*7^60*ko f l:=by
  rw[←ha,←hb,Nat.pow_add,Nat.pow_add];simp only[Nat.mul_assoc,Nat.mul_comm,Nat.mul_left_comm]
 have e2:11^a*8^b*(11^l.length*8^(l.map f).sum)=11^8*8^60:=by
  rw[←ha,←hb,Nat.pow_add,Nat.pow_add];simp only[Nat.mul_assoc,Nat.mul_comm,Nat.mul_left_comm]
 rw[e1,e2]at h2;rcases Nat.lt_or_ge 10000000 (ko f l)with h3|h3
 ·have h5:4^8*7^60*10000000≤4^8*7^60*ko f l:=Nat.mul_le_mul_left _ (Nat.le_of_lt h3)
  have h6:¬(4^8*7^60*10000000≤11^8*8^60):=by decide
  exact absurd (Nat.le_trans h5 h2) h6
 ·exact h3
end Go.Ag
/- Environments of small definitions; what a type stands for, and its text. -/
namespace Go.Ag
open Go
variable {T : Tab} {L : Lnk} {by_ : List (Bytes × TA)} {e : fJ} {C : List TA}
theorem IW :∀(n:Nat) (t:TA),wtT t≤n→iT t=allT t
 |0,t,h=>by have:=BO t;omega
 |n+1,t,h=>by
  obtain⟨k,nm,ns,l⟩:=t;rw[wtT]at h
  have:∀m:List TA,(∀t∈m,wtT t≤n)→uX m=AR m:=fun m=>by
   induction m with
   |nil=>intro _;rfl
   |cons t m ih=>intro hm;rw[uX,AR,IW n t (hm t (by simp)),ih fun x hx=>hm x (by simp[hx])]
  rw[iT,allT,this l fun t ht=>by have:=gU ht;omega]
theorem IV (t:TA):(iT t).length=szT t:=by rw[IW _ t (Nat.le_refl _)];rfl
theorem Nl :∀(n:Nat) (t:TA),wtT t≤n→∀x∈iT t,szT x≤szT t
 |0,t,h=>by have:=BO t;omega
 |n+1,t,h=>by
  obtain⟨k,nm,ns,l⟩:=t;intro x hx;rw[iT]at hx;rcases List.mem_cons.1 hx with rfl|hx
  ·exact Nat.le_refl _
  ·obtain⟨u,hu,hx⟩:=su.1 hx
   rw[wtT]at h;have h1:=Nl n u (by have:=gU hu;omega) x hx;have h2:=GI hu;rw[rT];omega
theorem SS (hE:mJ by_ e) (hnd:(by_.map (·.1)).Nodup) (bs:List TA) (hb:∀p∈by_,p.2∈bs) (hn:∀t∈bs,NT t) (hw:∀t∈bs,wtT t≤2^30) (hz:∀t∈bs,szT t≤100) (hl:bs.length≤2^10)
  (hbl:by_.length≤8) (hbs:(by_.map fun p=>szT p.2).sum≤60):lS by_ e (bs.flatMap iT)where
 ok:=hE
 nodup:=hnd
 mem:=fun p hp=>List.mem_flatMap.2 ⟨p.2,hb p hp,sj _⟩
 nt:=fun t ht=>by
  obtain⟨b,hb,ht⟩:=List.mem_flatMap.1 ht;exact Nn _ b (Nat.le_refl _) (hn b hb) t ht
 cl:=fun t ht x hx=>by
  obtain⟨b,hb,ht⟩:=List.mem_flatMap.1 ht;exact List.mem_flatMap.2 ⟨b,hb,((yP _ b (Nat.le_refl _)).1 t ht).2 x hx⟩
 wt:=fun t ht=>by
  obtain⟨b,hb,ht⟩:=List.mem_flatMap.1 ht;exact Nat.le_trans ((yP _ b (Nat.le_refl _)).1 t ht).1 (hw b hb)
 fin:=by
  have:∀(l:List TA),(∀t∈l,szT t≤100)→(l.flatMap iT).length≤l.length*100:=by
   intro l
   induction l with
   |nil=>intro _;simp
   |cons t l ih=>
    intro h;rw[List.flatMap_cons,List.length_append,List.length_cons,Nat.add_mul,IV];have h2:=h t (by simp);have h3:=ih fun x hx=>h x (by simp[hx])
    omega
  have h1:=this bs hz;omega
 slen:=fun t ht=>by
  obtain⟨b,hb',ht⟩:=List.mem_flatMap.1 ht;have h1:=Nl _ b (Nat.le_refl _) t ht;have h2:=hz b hb';obtain⟨n,hs⟩:=zY hE hnd t;have h3:=(EY hE hnd n).1 [] (by_.map (·.1)) t _ (List.Perm.refl _) (fun p hp=>by cases hp) hs
  have h4:((by_.map (·.1)).map fun p=>szT (dP by_ p)).sum≤60:=by
   rw[List.map_map,show by_.map ((fun p=>szT (dP by_ p))∘(·.1))=by_.map fun p=>szT p.2 from List.map_congr_left fun p hp=>by
    show szT (dP by_ p.1)=_
    rw[Al hnd hp]]
   exact hbs
  have h5:=Vo (fun p=>szT (dP by_ p)) (by_.map (·.1)) (by rw[List.length_map];exact hbl) h4;have h6:=Nat.mul_le_mul (Nat.le_trans h1 h2) h5;omega
theorem Lu :∀{l m:List TA},l.Pairwise (fun a b=>prT a 0<prT b 0)→m.Pairwise (fun a b=>prT a 0<prT b 0)→(∀x,x∈l↔x∈m)→l=m:=fun{l m} hl hm h=>by
 have nd:∀{l:List TA},l.Pairwise (fun a b=>prT a 0<prT b 0)→l.Nodup:=fun h=>h.imp fun h e=>by rw[e]at h;exact List.lt_irrefl _ h
 have hp:l.Perm m:=(List.perm_ext_iff_of_nodup (nd hl) (nd hm)).2 h;refine List.Perm.eq_of_pairwise (le:=fun a b=>prT a 0<prT b 0) (fun a b _ _ h1 h2=>absurd (List.lt_trans h1 h2) (List.lt_irrefl _)) hl hm hp
theorem L8 {l m:List TA} (hl:∀t∈l,NT t) (hm:∀t∈m,NT t) (h:∀x,x∈l↔x∈m):iy l=iy m:=
 Lu (jX l) (jX m) fun x=>by rw[nO hl,nO hm,h]
open Classical in
theorem SB {l:List TA} (h:∀t∈l,NT t∧t.kind≠7):l.find? (fun t=>t.kind==4)=if bK∈l then some bK else none:=by
 cases hd:l.find? (fun t=>t.kind==4)with
 |some t=>
  have h4:t.kind=4:=by simpa using List.find?_some (p:=fun t:TA=>t.kind==4) hd
  have hm:=List.mem_of_find?_eq_some hd;have:=(h t hm).1.nU h4;subst this;rw[if_pos hm]
 |none=>
  rw[if_neg fun hm=>List.find?_eq_none.1 hd bK hm rfl]
open Classical in
theorem join_eq {l:List TA} (h:∀t∈l,NT t∧t.kind≠7) (h0:l≠[]):dR l=if bK∈l then bK else oV (iy l):=by
 rw[DF h h0,SB h]
 by_cases hd:bK∈l
 ·rw[if_pos hd,if_pos hd]
 ·rw[if_neg hd,if_neg hd]
open Classical in
theorem DI {l m:List TA} (hl:∀t∈l,NT t∧t.kind≠7) (hm:∀t∈m,NT t∧t.kind≠7) (l0:l≠[]) (m0:m≠[]) (hd:bK∈l↔bK∈m) (h:bK∉l→∀x,x∈l↔x∈m):dR l=dR m:=by
 rw[join_eq hl l0,join_eq hm m0]
 by_cases hx:bK∈l
 ·rw[if_pos hx,if_pos (hd.1 hx)]
 ·rw[if_neg hx,if_neg fun h=>hx (hd.2 h),L8 (fun t ht=>(hl t ht).1) (fun t ht=>(hm t ht).1) (h hx)]
open Classical in
theorem HZ {l:List TA} (h:∀t∈l,NT t∧t.kind≠7) (h0:l≠[]):NT (dR l):=by
 rw[join_eq h h0];split
 ·exact .dyn
 ·rename_i hd
  refine EP (sK h0) (fun t ht=>?_) (jX l);have hm:=mg ht;exact⟨(h t hm).1,(h t hm).2,fun h4=>hd (by rw[←(h t hm).1.nU h4];exact hm)⟩
theorem lS.J2 {T:Tab} (W:lS by_ e C) (F:yM T) {t:TA} (ht:GC' C t):EK T.L 149 [t.av] e (.lst (TA.avs (hdE e t)) .none):=by
 obtain⟨n,h1,h2,h3⟩:=W.some _ ht.2.2
 have hE:∀p∈e.by_,wtT p.2≤2^40:=fun p hp=>by
  rw[W.ok.hby]at hp;have:=W.wt _ (W.mem p hp);omega
 have hw:∀y∈CR e (aW t),wtT y≤2^30:=fun y hy=>by
  rcases W.spr ((sD W.ok W.nodup _ _).1 hy) ht.2.2 with rfl|h'
  ·decide
  ·exact W.wt y h'
 have hl:=W.slen _ ht.2.2;have hok:=JB (fun y hy=>(h3 y hy).1) hl hw (by rw[zy fun y hy=>(h3 y hy).2.1];exact hl);have:=Mw F e hE n t _ h1 hl (Dh ht.1 ht.2.1) (by have:=qy t;have:=ht.2.1;omega) hok;rw[DT (fun y hy=>⟨(h3 y hy).1,(h3 y hy).2.1⟩) h2]at this;exact this
structure Xn (by_:List (Bytes×TA)) (e:fJ) (C:List TA):Prop extends lS by_ e C where
 few:C.length≤1600
 wee:∀t∈C,wtT t≤2^19
theorem XF {l:List TA} {m:Nat} (h:∀t∈l,wtT t≤m):wtL l≤l.length*(m+8):=by
 induction l with
 |nil=>simp[wtL]
 |cons t l ih=>
  rw[wtL,List.length_cons,Nat.add_mul];have h1:=h t (by simp);have h2:=ih fun x hx=>h x (by simp[hx])
  omega
theorem Xn.GA {T:Tab} (F:vY T) {u:TA} (hn:NT u) (hw:wtT u≤2^30):Pure T.L 150 [u.av] (.str (prT u 0)):=by
 have:=QG F u (Dh hn.gt hw) (by rw[jy hn];omega) (by rw[jy hn];exact hn.wf);rw[jy hn]at this;exact this
end Go.Ag
/- Types of long texts: how much they are by their sizes and their longest name; where heads come from. -/
namespace Go.Ag
open Go
variable {T : Tab} {L : Lnk} {by_ : List (Bytes × TA)} {e : fJ} {C : List TA}
mutual
def Nm (m:Nat):TA→Prop
 |.mk k nm ns l=>nm.length≤m∧(∀n∈ns,n.length≤m)∧NmL m l
def NmL (m:Nat):List TA→Prop
 |[]=>True
 |t::l=>Nm m t∧NmL m l
end
theorem XJ (hb:∀p∈by_,NT p.2) {t z:TA} (h:Spr by_ t z):NT t→z=bK∨z∈dS t∨z∈by_.flatMap fun p=>iT p.2:=by
 have hp:∀{t:TA},t.kind≠7→dS t=[t]:=fun h=>if_neg h
 have hs:∀{t x:TA},NT t→x∈dS t→x∈iT t:=fun{t x} hn h=>by
  obtain⟨k,nm,ns,l⟩:=t;unfold dS at h;split at h
  ·exact((yP _ (.mk k nm ns l) (Nat.le_refl _)).1 _ (sj _)).2 x h
  ·rw[List.mem_singleton]at h;subst h;exact sj _
 induction h with
 |self t h7 h8=>exact fun _=>.inr (.inl (by rw[hp h7];simp))
 |part nm ns l x y hx h ih=>
  intro hn;have hxn:=hn.parts x hx
  have hx7:x.kind≠7:=by
   cases hn with
   |uni l h2 h h7 hs=>exact(h7 x hx).1
  rcases ih hxn with h|h|h
  ·exact .inl h
  ·rw[hp hx7,List.mem_singleton]at h
   subst h;exact .inr (.inl (by rw[show dS (.mk 7 nm ns l)=l from if_pos rfl];exact hx))
  ·exact .inr (.inr h)
 |emp nm ns l h=>exact fun _=>.inl rfl
 |ref nm ns l y he h ih=>
  intro _;obtain⟨h1,p,hp1,h2⟩:=ze hb he;rcases ih h1 with h|h|h
  ·exact .inl h
  ·rw[h2]at h h1
   exact .inr (.inr (List.mem_flatMap.2 ⟨p,hp1,hs h1 h⟩))
  ·exact .inr (.inr h)
theorem EM :∀{l B:List TA},l.Nodup→(∀x∈l,x∈B)→wtL l≤wtL B
 |[],B,_,_=>by simp[wtL]
 |t::l,B,hn,h=>by
  open Classical in
  rw[List.nodup_cons]at hn;have hp:=List.perm_cons_erase (h t (by simp));have e:wtL B=wtL (t::B.erase t):=by rw[tL,tL];exact(hp.map _).sum_nat
  rw[e,wtL,wtL]
  have:=EM (l:=l) (B:=B.erase t) hn.2 fun x hx=>by
   refine(List.mem_erase_of_ne fun hxt=>?_).2 (h x (by simp[hx]));subst hxt;exact hn.1 hx
  omega
theorem Rw (l:List (Bytes×TA)):(jA l).length≤l.length∧((jA l).map fun p=>szT p.2).sum≤jr l:=by
 have key:∀(l B:List (Bytes×TA)),(l.foldl oO B).length≤B.length+l.length∧((l.foldl oO B).map fun p=>szT p.2).sum≤(B.map fun p=>szT p.2).sum+jr l:=fun l=>by
  induction l with
  |nil=>intro B;simp[jr]
  |cons q l ih=>
   intro B;obtain⟨h1,h2⟩:=ih (oO B q)
   have h3:(oO B q).length≤B.length+1∧((oO B q).map fun p=>szT p.2).sum≤(B.map fun p=>szT p.2).sum+szT q.2:=by
    unfold oO;have:=IQ q.2;split
    ·omega
    ·rw[List.length_append,List.map_append,List.sum_append_nat];simp;omega
   unfold jr at h2⊢;rw[List.foldl_cons,List.length_cons,List.map_cons,List.sum_cons];omega
 have:=key l [];unfold jA;simpa using this
theorem Xa {m:Nat} (h:∀p∈by_,wtT p.2≤m) (hs:(by_.map fun p=>szT p.2).sum≤60):wtL (by_.flatMap fun p=>iT p.2)≤60*(m+8):=by
 have h1:=XF (l:=by_.flatMap fun p=>iT p.2) (m:=m) fun t ht=>by
  obtain⟨p,hp,ht⟩:=List.mem_flatMap.1 ht;exact Nat.le_trans ((yP _ p.2 (Nat.le_refl _)).1 t ht).1 (h p hp)
 have h2:(by_.flatMap fun p=>iT p.2).length=(by_.map fun p=>szT p.2).sum:=by
  clear h hs h1
  induction by_ with
  |nil=>rfl
  |cons p l ih=>rw[List.flatMap_cons,List.length_append,List.map_cons,List.sum_cons,ih,IV]
 rw[h2]at h1;exact Nat.le_trans h1 (Nat.mul_le_mul_right _ hs)
end Go.Ag
/- Package cupellaw08: alive. -/
namespace Go.Ag
open Go
variable {T : Tab} {L : Lnk}
end Go.Ag
/- Bodies in pieces: a run is told part by part. -/
namespace Go.Ag
open Go
variable {T : Tab} {L : Lnk}
def FR :Nat→AC→AC
 |0,_=>.skip
 |n+1,.seq a b=>.seq a (FR n b)
 |_+1,c=>c
def xH :Nat→AC→AC
 |0,b=>b
 |n+1,.seq a b=>xH n b
 |_+1,_=>.skip
theorem p8 {P:Env→Heap→Prop} {Q:oP}:∀(n:Nat) (c:AC) (e:Env) (H:Heap),dV L (FR n c) e H (tY P Q)→(∀e' H',P e' H'→dV L (xH n c) e' H' Q)→dV L c e H Q
 |0,c,e,H,h,ht=>ht _ _ h
 |n+1,c,e,H,h,ht=>by
  have other:(∀a b,c≠.seq a b)→dV L c e H Q:=fun hne=>by
   have e1:FR (n+1) c=c:=by cases c<;>first|rfl|exact absurd rfl (hne _ _)
   have e2:xH (n+1) c=.skip:=by cases c<;>first|rfl|exact absurd rfl (hne _ _)
   rw[e1]at h;refine nI (fun x e' H' hx=>?_) h
   cases x with
   |normal=>
    have:=ht e' H' hx;rw[e2]at this;exact this
   |_=>exact hx
  cases c with
  |seq a b=>
   have h:dV L a e H (tY (fun e' H'=>dV L (FR n b) e' H' (tY P Q)) (tY P Q)):=h;show dV L a e H (tY (fun e' H'=>dV L b e' H' Q) Q);refine nI (fun x e' H' hx=>?_) h
   cases x with
   |normal=>exact p8 n b e' H' hx ht
   |_=>exact hx
  |_=>exact other (fun a b=>by simp)
end Go.Ag
/- Package cupellaw08: AliasOrder. -/
namespace Go.Ag
open Go
variable {T : Tab} {L : Lnk}
section congr
variable {b1 b2 : List (Bytes × TA)}
end congr
end Go.Ag
/- Unions: their heads are those of their parts together; Made, wherever it is called. -/
namespace Go.Ag
open Go
variable {T : Tab} {L : Lnk} {by_ : List (Bytes × TA)} {e : fJ} {C : List TA}
def uT (x y:TA):TA:=.mk 7 [] [] [x,y]
theorem Sn {x y:TA} (hx:GT x) (hy:GT y):GT (uT x y):=.uni _ (by simp) (MF hx hy)
theorem lS.Bw (W:lS by_ e C) {t:TA} (ht:GC' C t):(∀y∈hdE e t,NT y∧y.kind≠7)∧hdE e t≠[]:=by
 obtain⟨n,h1,h2,h3⟩:=W.some _ ht.2.2;refine⟨fun y hy=>⟨(W.Mx ht hy).1,?_⟩,?_⟩
 ·rcases W.head ht hy with rfl|h
  ·decide
  ·exact h.2.1
 ·unfold hdE l6
  split
  ·simp
  ·exact sK h2
theorem Xm (F:zT T) (src:Bytes) (hs:src.length≤600) (H:Heap):aD T.L 147 [.str src] H fun r H'=>∃e o0 o1,mJ (jA (gV src)) e∧r=.ret (.tup [.ptr (H.length+4) 0,.lst (gG (gV src)) .none,.bool (decide ((gV src).length≤8))])∧
  H'=H ++[o0,o1,.map (dh e.by_ 0) e.by_.length,.map (gP e.empty 0) e.empty.length,.cells [.map (H.length+2),.map (H.length+3)] 234]:=by
 have hp:Part H [] []:=⟨by simp,rfl,fun k i o hk=>by cases hk⟩;have hf:=aD.nC (QI F src hs) [] hp (.inr fun r H' _=>Nat.zero_le _);refine hf.mono fun r H' ⟨r1,H1,⟨e,o0,o1,h1,l0,l1,h2,h3⟩,_,h4,h5⟩=>⟨e,o0,o1,h1,?_,?_⟩
 ·rw[h4,h2]
  simp only[Ab]
  congr 1
  simp only[ren,iI];rw[jN (Nat.zero_le _)]
  congr 2
  have:=jw (ρ:=nameOf [] H.length) (show Low 0 (aA.lst (gG (gV src)) .none)from .lst _ _ trivial (sU 0 _));simp only[ren]at this;rw[this]
 ·rw[h5,h3]
  simp only[List.length_nil,List.take_zero,List.map_nil,List.drop_zero,mK]
  congr 1
  simp only[List.map_cons,List.map_nil];rw[dF l0,dF l1,dF (show bE 0 (.map (dh e.by_ 0) e.by_.length)from fH 0 _ _),dF (show bE 0 (.map (gP e.empty 0) e.empty.length)from gK 0 _ _)];simp only[jC,iI,ren];rw[jN (Nat.zero_le _),jN (Nat.zero_le _)];rfl
theorem QJ (F:zT T) (src:Bytes) (hs:600<src.length):Pure T.L 147 [.str src] (.tup [.fD,.lst [] .nil,.bool false]):=by
 refine Pure.run (dI (.str _)) (.tup _ (fT.at ⟨.fD,.lst _ _ trivial gJ,.bool _,trivial⟩)) (aI F.Sl (by simp[OC]) ?_);have h1:decide ((src.length:Int)>600)=true:=decide_eq_true (by omega);conv=>whnf
 rw[h1];conv=>whnf
 exact aH (Weak.refl _)
end Go.Ag
/- Package cupellaw08: AliasUnions. -/
namespace Go.Ag
open Go
variable {T : Tab} {L : Lnk}
theorem Sd {by_:List (Bytes×TA)} {e:fJ} {C:List TA} (W:lS by_ e C) {t:TA} (ht:GC' C t):(hdE e t).length≤2^29:=by
 have hh:=fun h hh=>W.head (h:=h) ht hh
 have hf:=W.fin
 have:(hdE e t).Nodup:=by
  unfold hdE l6;split
  ·simp
  ·exact(jX _).imp fun h e=>by rw[e]at h;exact List.lt_irrefl _ h
 have h1:(hdE e t).length≤(bK::C).length:=this.length_le_of_subset fun x hx=>by
  rcases hh x hx with rfl|h
  ·simp
  ·simp[h.1]
 rw[List.length_cons]at h1;omega
end Go.Ag
/- Types asked about under a source's definitions; what the heads of a type give (package parts), in plain lists. -/
namespace Go.Ag
open Go
variable {by_ : List (Bytes × TA)} {e : fJ} {C : List TA}
theorem Sc (e:fJ) (t:TA):(hdE e t).Nodup:=by
 unfold hdE l6;split
 ·simp
 ·exact(jX _).imp fun h e=>by rw[e]at h;exact List.lt_irrefl _ h
theorem XA {D:List (Bytes×TA)} {ts:List TA} (hD:∀p∈D,kC p.1∧GT p.2∧wtT p.2≤2^19) (hl:D.length≤8) (hz:jr D≤60) (hts:∀t∈ts,GT t∧wtT t≤2^22∧szT t≤100) (hn:ts.length≤1000) (hE:mJ (jA D) e):
  ∃C,lS (jA D) e C∧(∀t∈ts,GC' C t)∧∀t∈ts,wtL (hdE e t)≤2^26:=by
 obtain⟨n1,n2⟩:=Rw D
 have hb:∀p∈jA D,NT p.2∧wtT p.2≤2^19:=fun p hp=>by
  obtain⟨q,hq,rfl⟩:=FC hp;have:=qy q.2;exact⟨vF (hD q hq).2.1,Nat.le_trans this (hD q hq).2.2⟩
 have hsum:((jA D).map fun p=>szT p.2).sum≤60:=Nat.le_trans n2 hz
 have hone:∀p∈jA D,szT p.2≤60:=fun p hp=>by
  refine Nat.le_trans ?_ hsum
  have:∀{l:List (Bytes×TA)},p∈l→szT p.2≤(l.map fun p=>szT p.2).sum:=fun{l} h=>by
   induction l with
   |nil=>cases h
   |cons a l ih=>
    rw[List.map_cons,List.sum_cons];rcases List.mem_cons.1 h with rfl|h
    ·omega
    ·have:=ih h;omega
  exact this hp
 obtain⟨bs,hbs⟩:∃bs,bs=(jA D).map (·.2) ++ts.map aW:=⟨_,rfl⟩
 have hin:∀b∈bs,NT b∧wtT b≤2^30∧szT b≤100:=fun b h=>by
  rw[hbs]at h;rcases List.mem_append.1 h with h|h
  ·obtain⟨p,hp,rfl⟩:=List.mem_map.1 h
   have:=hone p hp;exact⟨(hb p hp).1,Nat.le_trans (hb p hp).2 (by decide),by omega⟩
  ·obtain⟨t,ht,rfl⟩:=List.mem_map.1 h
   obtain⟨k1,k2,k3⟩:=hts t ht;exact⟨vF k1,Nat.le_trans (qy t) (Nat.le_trans k2 (by decide)),Nat.le_trans (IQ t) k3⟩
 have W:lS (jA D) e (bs.flatMap iT):=SS hE (Bp D) bs (fun p hp=>by rw[hbs];exact List.mem_append_left _ (List.mem_map.2 ⟨p,hp,rfl⟩)) (fun t ht=>(hin t ht).1) (fun t ht=>(hin t ht).2.1) (fun t ht=>(hin t ht).2.2)
  (by rw[hbs,List.length_append,List.length_map,List.length_map];omega) (by omega) hsum
 have hc:∀t∈ts,GC' (bs.flatMap iT) t:=fun t ht=>gc_of (hts t ht).1 (Nat.le_trans (hts t ht).2.1 (by decide)) (by rw[hbs];exact List.mem_append_right _ (List.mem_map.2 ⟨t,ht,rfl⟩))
 refine⟨_,W,hc,fun t ht=>?_⟩;have h1:=Xa (m:=2^19) (fun p hp=>(hb p hp).2) hsum;have h2:=Cy (aW t);have h3:=qy t;have h4:wtT bK=16:=rfl;have h5:=(hts t ht).2.1
 have h6:=EM (B:=bK::(dS (aW t) ++(jA D).flatMap fun p=>iT p.2)) (Sc e t) fun z hz=>by
  rcases(W.yt (hc t ht)).1 hz with h|h
  ·rw[h.2];simp
  ·rcases XJ (fun p hp=>(hb p hp).1) h.2 (vF (hts t ht).1)with h|h|h
   ·subst h;simp
   ·simp[h]
   ·exact List.mem_cons_of_mem _ (List.mem_append_right _ h)
 rw[wtL,xV]at h6;omega
def nD (part:TA→Option TA):List TA→List TA→List TA×Nat
 |acc,[]=>(acc,0)
 |acc,h::hs=>if h.kind=4 then([],1)else match part h with
  |none=>([],2)
  |some x=>nD part (acc ++[x]) hs
def dW (nm:Bytes) (h:TA):Option TA:=if h.kind=5 then(if nm∈h.names then h.l[xC h.names nm]? else none)else none
def jG (h:TA):Option TA:=if h.kind=6 then h.l[1]? else none
def fstP (h:TA):TA:=h.l.getD 0 bK
def gives (part:TA→Option TA) (hs:List TA):TA×Nat:=if(nD part [] hs).2=0 then(dR (nD part [] hs).1,0)else(bK,(nD part [] hs).2)
theorem wS {part:TA→Option TA}:∀(hs acc:List TA),(∀h∈hs,h.kind≠4)→(∀h∈hs,(part h).isSome=true)→nD part acc hs=(acc ++hs.filterMap part,0)
 |[],acc,_,_=>by simp[nD]
 |h::hs,acc,h4,hp=>by
  rw[nD,if_neg (h4 h (by simp))];have:=hp h (by simp)
  cases hx:part h with
  |none=>rw[hx]at this;cases this
  |some x=>
   show nD part (acc ++[x]) hs=_;rw[wS hs _ (fun t ht=>h4 t (by simp[ht])) (fun t ht=>hp t (by simp[ht])),List.filterMap_cons,hx];simp
theorem zD {part:TA→Option TA}:∀(hs acc:List TA),(∀h∈hs,h.kind≠4)→(∃h∈hs,part h=none)→nD part acc hs=([],2)
 |[],acc,_,h=>by obtain⟨x,h,_⟩:=h;cases h
 |h::hs,acc,h4,hp=>by
  rw[nD,if_neg (h4 h (by simp))]
  cases hx:part h with
  |none=>rfl
  |some x=>
   refine zD hs _ (fun t ht=>h4 t (by simp[ht])) ?_;obtain⟨t,ht,hn⟩:=hp;rcases List.mem_cons.1 ht with rfl|ht
   ·rw[hx]at hn;cases hn
   ·exact⟨t,ht,hn⟩
theorem wN (part:TA→Option TA):gives part [bK]=(bK,1):=by
 unfold gives;rw[show nD part [] [bK]=([],1)from rfl];rfl
theorem iR {part:TA→Option TA} {hs:List TA} (h4:∀h∈hs,h.kind≠4):(gives part hs=(dR (hs.filterMap part),0)∧∀h∈hs,(part h).isSome=true)∨(gives part hs=(bK,2)∧∃h∈hs,part h=none):=by
 by_cases h:∃h∈hs,part h=none
 ·right
  unfold gives;rw[zD hs [] h4 h];exact⟨rfl,h⟩
 ·left
  have hp:∀x∈hs,(part x).isSome=true:=fun x hx=>by
   cases hn:part x with
   |none=>exact absurd ⟨x,hx,hn⟩ h
   |some _=>rfl
  unfold gives;rw[wS hs [] h4 hp];exact⟨rfl,hp⟩
theorem Rt {l:List TA} (h:∀t∈l,NT t):dH l=l:=by
 rw[fG,show l.map aW=l.map id from List.map_congr_left fun t ht=>jy (h t ht),List.map_id]
theorem Xt {l:List TA} (h:∀t∈l,NT t):dR l=kJ l:=by
 unfold dR;rw[aW,if_pos rfl,Rt h]
theorem Lg (l m:List TA) (h:aN l=m) (hm:aN m=m):kJ l=kJ m:=by
 rw[mE,mE,hm,h]
theorem sV {l:List TA} (h:∀t∈l,NT t):dR l=dR (aN l):=by
 have hf:=kU h;rw[Xt h,Xt fun t ht=>(hf t ht).1];exact Lg _ _ rfl (zy fun t ht=>(hf t ht).2)
theorem Dz {l:List TA} (h:∀t∈l,NT t∧t.kind≠7) (h0:l≠[]):(bK∈dS (dR l)↔bK∈l)∧(bK∉l→∀x,x∈dS (dR l)↔x∈l):=by
 have hn:∀t∈l,NT t:=fun t ht=>(h t ht).1
 have hu:dS (dR l)=Au (dR l):=by unfold dS Au;rfl
 rw[hu,DT h h0];unfold l6;cases hd:l.any (fun t=>t.kind==4)
 ·have h4:bK∉l:=fun hm=>by
   have:l.any (fun t=>t.kind==4)=true:=List.any_eq_true.2 ⟨_,hm,rfl⟩;rw[hd]at this;cases this
  rw[if_neg (by simp)];exact⟨nO hn,fun _ x=>nO hn⟩
 ·obtain⟨t,ht,h4⟩:=List.any_eq_true.1 hd
  have:t=bK:=(hn t ht).nU (by simpa using h4);subst this;rw[if_pos rfl];exact⟨by simp[ht],fun hn=>absurd ht hn⟩
theorem RP {p q u:List TA} (hp:∀t∈p,NT t) (hq:∀t∈q,NT t) (p0:p≠[]) (q0:q≠[]) (hu:∀x,x∈u↔x∈p∨x∈q):dR u=dR [dR p,dR q]:=by
 have hU:∀t∈u,NT t:=fun t ht=>((hu t).1 ht).elim (hp t) (hq t)
 have u0:u≠[]:=fun h=>by
  obtain⟨x,hx⟩:=List.exists_mem_of_ne_nil _ p0;have:=(hu x).2 (.inl hx);rw[h]at this;cases this
 have fp:=kU hp;have fq:=kU hq;have fu:=kU hU;have np:=qH hp p0;have nq:=qH hq q0;have jp:=sV hp;have jq:=sV hq;have tp:=HZ fp np;have tq:=HZ fq nq;rw[←jp]at tp;rw[←jq]at tq
 have h2:∀t∈[dR p,dR q],NT t:=fun t ht=>by
  simp only[List.mem_cons,List.not_mem_nil,or_false]at ht;rcases ht with rfl|rfl
  ·exact tp
  ·exact tq
 have f2:=kU h2;rw[sV hU,sV h2];have a1:=Dz fp np;have a2:=Dz fq nq;rw[←jp]at a1;rw[←jq]at a2
 have hm:∀x,x∈aN u↔x∈aN p∨x∈aN q:=fun x=>by
  simp only[nS];constructor
  ·rintro⟨t,ht,hx⟩
   rcases(hu t).1 ht with h|h
   ·exact .inl ⟨t,h,hx⟩
   ·exact .inr ⟨t,h,hx⟩
  ·rintro(⟨t,ht,hx⟩|⟨t,ht,hx⟩)
   ·exact⟨t,(hu t).2 (.inl ht),hx⟩
   ·exact⟨t,(hu t).2 (.inr ht),hx⟩
 have hf2:∀x,x∈aN [dR p,dR q]↔x∈dS (dR p)∨x∈dS (dR q):=fun x=>by
  rw[nS];simp
 have hd:bK∈aN u↔bK∈aN [dR p,dR q]:=by rw[hm,hf2,a1.1,a2.1]
 refine DI fu f2 (qH hU u0) (qH h2 (by simp)) hd fun hn x=>?_
 rw[hm,not_or]at hn;rw[hm,hf2,a1.2 hn.1,a2.2 hn.2]
theorem Yf (W:lS by_ e C) {x y:TA} (hx:GC' C x) (hy:GC' C y) (hu:GC' C (uT x y)):
  ((bK∈hdE e x∨bK∈hdE e y)→hdE e (uT x y)=[bK])∧(bK∉hdE e x→bK∉hdE e y→∀z,z∈hdE e (uT x y)↔z∈hdE e x∨z∈hdE e y):=by
 have hj:=I5 (by_:=by_) (MF hx.1 hy.1) (by simp);have h2:∀{P:TA→Prop},(∃t∈[x,y],P t)↔P x∨P y:=fun{P}=>by simp
 rw[h2]at hj;have hd:∀{t:TA},GC' C t→(bK∈hdE e t↔Spr by_ (aW t) bK):=fun{t} ht=>by rw[W.yt ht];exact⟨fun h=>h.elim (fun h=>h.1) fun h=>h.2,fun h=>.inl ⟨h,rfl⟩⟩
 rw[hd hx,hd hy];constructor
 ·intro h
  have h1:Spr by_ (aW (uT x y)) bK:=hj.1.2 h;unfold hdE l6;rw[if_pos];exact List.any_eq_true.2 ⟨bK,(sD W.ok W.nodup _ _).2 h1,rfl⟩
 ·intro n1 n2 z
  have hn:¬(Spr by_ (aW x) bK∨Spr by_ (aW y) bK):=fun h=>h.elim n1 n2
  have h1:=hj.2 hn z;rw[h2]at h1;have h3:¬Spr by_ (aW (uT x y)) bK:=fun h=>hn (hj.1.1 h)
  rw[W.yt hu,W.yt hx,W.yt hy];simp only[h3,n1,n2,false_and,not_false_eq_true,true_and,false_or];exact h1
theorem DU (W:lS by_ e C) {x:TA} (hx:GC' C x) (h:bK∈hdE e x):hdE e x=[bK]:=by
 have h1:Spr by_ (aW x) bK:=by rw[W.yt hx]at h;exact h.elim (fun h=>h.1) fun h=>h.2
 unfold hdE l6;rw[if_pos];exact List.any_eq_true.2 ⟨bK,(sD W.ok W.nodup _ _).2 h1,rfl⟩
theorem ER (W : lS by_ e C) {x y : TA} (hx : GC' C x) (hy : GC' C y) (hu : GC' C (uT x y)) {part : TA → Option TA} (hp : ∀ h t, NT h → part h = some t → NT t) :
  (((gives part (hdE e x)).2 = 1 ∨ (gives part (hdE e y)).2 = 1) → gives part (hdE e (uT x y)) = (bK, 1)) ∧
  ((gives part (hdE e x)).2 ≠ 1 → (gives part (hdE e y)).2 ≠ 1 →
   (((gives part (hdE e (uT x y))).2 = 0) ↔ (gives part (hdE e x)).2 = 0 ∧ (gives part (hdE e y)).2 = 0) ∧
   ((gives part (hdE e (uT x y))).2 = 0 → (gives part (hdE e (uT x y))).1 = dR [(gives part (hdE e x)).1, (gives part (hdE e y)).1]) ∧ ((gives part (hdE e (uT x y))).2 ≠ 0 → gives part (hdE e (uT x y)) = (bK, 2))) := by
 have hh := Yf W hx hy hu
 have nx := W.Bw hx
 have ny := W.Bw hy
 have one : ∀ {t : TA}, GC' C t → ((gives part (hdE e t)).2 = 1 ↔ bK ∈ hdE e t) := fun {t} ht => by
  constructor
  ·intro h
   have hn := W.Bw ht
   apply Classical.byContradiction
   intro hd
   rcases iR (part := part) (hs := hdE e t) (fun h hm h4 => hd (by rw [← (hn.1 h hm).1.nU h4]; exact hm)) with h' | h' <;> rw [h'.1] at h <;> cases h
  ·intro h
   rw [DU W ht h, wN]
 refine ⟨fun h => by rw [one hx, one hy] at h; rw [hh.1 h, wN], fun dx dy => ?_⟩
 rw [ne_eq, one hx] at dx
 rw [ne_eq, one hy] at dy
 have k : ∀ {l : List TA}, (∀ t ∈ l, NT t) → bK ∉ l → ∀ h ∈ l, h.kind ≠ 4 := fun hl hd h hm h4 => hd (by rw [← (hl h hm).nU h4]; exact hm)
 have hm := hh.2 dx dy
 have kx := k (fun t ht => (nx.1 t ht).1) dx
 have ky := k (fun t ht => (ny.1 t ht).1) dy
 have ku : ∀ h ∈ hdE e (uT x y), h.kind ≠ 4 := fun h h' => ((hm h).1 h').elim (kx h) (ky h)
 rcases iR (part := part) kx with ⟨gx, ax⟩ | ⟨gx, ax⟩
 ·rcases iR (part := part) ky with ⟨gy, ay⟩ | ⟨gy, ay⟩
  ·rcases iR (part := part) ku with ⟨gu, au⟩ | ⟨gu, t, ht, hn⟩
   ·rw [gx, gy, gu]
    refine ⟨by simp, fun _ => ?_, fun h => absurd rfl h⟩
    have fm : ∀ {l : List TA}, (∀ t ∈ l, NT t) → ∀ t ∈ l.filterMap part, NT t := fun hl t ht => by
     obtain ⟨h, hm, he⟩ := List.mem_filterMap.1 ht
     exact hp h t (hl h hm) he
    have ne : ∀ {l : List TA}, l ≠ [] → (∀ h ∈ l, (part h).isSome = true) → l.filterMap part ≠ [] := fun {l} h0 hs he => by
     obtain ⟨z, hz⟩ := List.exists_mem_of_ne_nil _ h0
     obtain ⟨w, hw⟩ := Option.isSome_iff_exists.1 (hs z hz)
     have : w ∈ l.filterMap part := List.mem_filterMap.2 ⟨z, hz, hw⟩
     rw [he] at this; cases this
    refine RP (fm fun t ht => (nx.1 t ht).1) (fm fun t ht => (ny.1 t ht).1) (ne nx.2 ax) (ne ny.2 ay) fun z => ?_
    simp only [List.mem_filterMap]
    constructor
    ·rintro ⟨a, ha, hz⟩
     rcases (hm a).1 ha with h | h
     ·exact .inl ⟨a, h, hz⟩
     ·exact .inr ⟨a, h, hz⟩
    ·rintro (⟨a, ha, hz⟩ | ⟨a, ha, hz⟩)
     ·exact ⟨a, (hm a).2 (.inl ha), hz⟩
     ·exact ⟨a, (hm a).2 (.inr ha), hz⟩
   ·rcases (hm t).1 ht with h | h
    ·have := ax t h; rw [hn] at this; cases this
    ·have := ay t h; rw [hn] at this; cases this
  ·obtain ⟨t, ht, hn⟩ := ay
   rcases iR (part := part) ku with ⟨gu, au⟩ | ⟨gu, _⟩
   ·have := au t ((hm t).2 (.inr ht)); rw [hn] at this; cases this
   ·rw [gx, gy, gu]
    exact ⟨⟨by simp, by simp⟩, by simp, fun _ => rfl⟩
 ·obtain ⟨t, ht, hn⟩ := ax
  rcases iR (part := part) ku with ⟨gu, au⟩ | ⟨gu, _⟩
  ·have := au t ((hm t).2 (.inl ht)); rw [hn] at this; cases this
  ·rw [gx, gu]
   exact ⟨⟨by simp, by simp⟩, by simp, fun _ => rfl⟩
theorem Sq {part:TA→Option TA} {hs:List TA} (hp:∀h t,part h=some t→t∈h.l) (h4:∀h∈hs,h.kind≠4):wtT (gives part hs).1≤16+wtL hs:=by
 have key:∀l:List TA,wtL (l.filterMap part)≤wtL l:=fun l=>by
  induction l with
  |nil=>exact Nat.le_refl _
  |cons h l ih=>
   rw[List.filterMap_cons]
   cases hx:part h with
   |none=>rw[wtL];simp only;omega
   |some t=>
    have h1:=gU (hp h t hx);have h2:=BO h;simp only[wtL];omega
 rcases iR (part:=part) h4 with⟨g,_⟩|⟨g,_⟩
 ·rw[g]
  have h1:=qy (.mk 7 [] [] (hs.filterMap part));have h2:=key hs;show wtT (aW _)≤_;rw[wtT]at h1;simp only[List.length_nil,List.map_nil,List.sum_nil]at h1;omega
 ·rw[g]
  show wtT bK≤_;have:wtT bK=16:=rfl;omega
end Go.Ag
/- Abstract codes, printed by a program of ours (acode.py) out of the given program's form. -/
namespace Go.Ag
open Go
def Gi :aO:=(.mk 4 175 [8] (.seq (.ops [(.d 8 (.mv (.const (.bool false))))]) (.seq (.seq (.ops [(.d 30 (.call 154 [])),(.d 31 (.un .not 30))]) (.cond 31 (.seq (.ops [(.d 8 (.mv (.const (.bool false))))]) .ret) .skip)) (.seq (.ops [(.d 33 (.mv 0)),(.d 34 (.mv 1)),(.d 35 (.mv 2)),(.d 36 (.lit 1 16 [] 2 [(0,34),(1,35)])),(.d 37 (.call 155 [33,36])),(.d 32 (.mv 37)),(.d 38 (.ext 32 0)),(.d 39 (.ext 32 1)),(.d 40 (.ext 32 2)),(.d 41 (.ext 32 3)),(.d 42 (.ext 32 4)),(.d 9 (.mv 38)),(.d 10 (.mv 39)),(.d 11 (.mv 40)),(.d 12 (.mv 41)),(.d 13 (.mv 42))]) (.seq (.seq (.ops [(.d 43 (.mv 13)),(.d 44 (.un .not 43)),(.d 45 (.mv 44)),(.g 46 (.mv 3) 45 false),(.g 47 (.pU 46) 45 false),(.g 48 (.bin .gtr 47 (.const (.i 100))) 45 false),(.d 49 (.pick 45 (.const (.bool true)) 48))]) (.cond 49 (.seq (.ops [(.d 8 (.mv (.const (.bool true))))]) .ret) .skip)) (.seq (.ops [(.d 50 (.mv 11)),(.d 51 (.build [(.i 0),(.str []),.nl,.nl] [(0,(1,(.const (.i 7)))),(3,(1,50))])),(.d 14 (.alloc [(.i 0),(.str []),.nl,.nl] 175)),(.n (.store 4 14 51))]) (.seq (.ops [(.d 53 (.mv 9)),(.d 54 (.mv 11)),(.d 55 (.bH 4 54 (.const (.i 0)))),(.d 56 (.load (some 4) 55)),(.d 57 (.mv 3)),(.d 58 (.call 156 [53,56,57])),(.d 52 (.mv 58)),(.d 59 (.ext 52 0)),(.d 60 (.ext 52 1)),(.d 15 (.alloc [(.i 0),(.str []),.nl,.nl] 175)),(.n (.store 4 15 59)),(.d 16 (.mv 60))]) (.seq (.ops [(.d 62 (.mv 9)),(.d 63 (.mv 11)),(.d 64 (.bH 4 63 (.const (.i 1)))),(.d 65 (.load (some 4) 64)),(.d 66 (.mv 3)),(.d 67 (.call 156 [62,65,66])),(.d 61 (.mv 67)),(.d 68 (.ext 61 0)),(.d 69 (.ext 61 1)),(.d 17 (.alloc [(.i 0),(.str []),.nl,.nl] 175)),(.n (.store 4 17 68)),(.d 18 (.mv 69))]) (.seq (.ops [(.d 71 (.mv 9)),(.d 72 (.load (some 4) 14)),(.d 73 (.mv 3)),(.d 74 (.call 156 [71,72,73])),(.d 70 (.mv 74)),(.d 75 (.ext 70 0)),(.d 76 (.ext 70 1)),(.d 19 (.alloc [(.i 0),(.str []),.nl,.nl] 175)),(.n (.store 4 19 75)),(.d 20 (.mv 76))]) (.seq (.ops [(.d 78 (.mv 9)),(.d 79 (.mv 11)),(.d 80 (.bH 4 79 (.const (.i 0)))),(.d 81 (.load (some 4) 80)),(.d 82 (.call 157 [78,81])),(.d 77 (.mv 82)),(.d 83 (.ext 77 0)),(.d 84 (.ext 77 1)),(.d 85 (.ext 77 2)),(.d 22 (.alloc [(.i 0),(.str []),.nl,.nl] 175)),(.d 21 (.mv 83)),(.n (.store 4 22 84)),(.d 23 (.mv 85))]) (.seq (.ops [(.d 87 (.mv 9)),(.d 88 (.mv 11)),(.d 89 (.bH 4 88 (.const (.i 1)))),(.d 90 (.load (some 4) 89)),(.d 91 (.call 157 [87,90])),(.d 86 (.mv 91)),(.d 92 (.ext 86 0)),(.d 93 (.ext 86 1)),(.d 94 (.ext 86 2)),(.d 25 (.alloc [(.i 0),(.str []),.nl,.nl] 175)),(.d 24 (.mv 92)),(.n (.store 4 25 93)),(.d 26 (.mv 94))]) (.seq (.ops [(.d 96 (.mv 9)),(.d 97 (.load (some 4) 14)),(.d 98 (.call 157 [96,97])),(.d 95 (.mv 98)),(.d 99 (.ext 95 0)),(.d 100 (.ext 95 1)),(.d 101 (.ext 95 2)),(.d 28 (.alloc [(.i 0),(.str []),.nl,.nl] 175)),(.d 27 (.mv 99)),(.n (.store 4 28 100)),(.d 29 (.mv 101))]) (.seq (.seq (.ops [(.d 102 (.mv 16)),(.d 103 (.bin .eql 102 (.const (.i 1)))),(.d 104 (.mv 103)),(.g 105 (.mv 18) 104 false),(.g 106 (.bin .eql 105 (.const (.i 1))) 104 false),(.d 107 (.pick 104 (.const (.bool true)) 106))]) (.cond 107 (.seq (.ops [(.d 108 (.mv 20)),(.d 109 (.bin .eql 108 (.const (.i 1)))),(.d 110 (.mv 109)),(.g 111 (.mv 29) 110 true),(.g 112 (.bin .eql 111 (.const (.i 1))) 110 true),(.d 113 (.pick 110 112 (.const (.bool false)))),(.d 114 (.mv 113)),(.g 115 (.aC 0 19) 114 true),(.g 116 (.load none 115) 114 true),(.g 117 (.bin .eql 116 (.const (.i 4))) 114 true),(.d 118 (.pick 114 117 (.const (.bool false)))),(.d 119 (.mv 118)),(.g 120 (.aC 0 28) 119 true),(.g 121 (.load none 120) 119 true),(.g 122 (.bin .eql 121 (.const (.i 4))) 119 true),(.d 123 (.pick 119 122 (.const (.bool false)))),(.d 8 (.mv 123))]) .ret) .skip)) (.seq (.seq (.ops [(.d 124 (.mv 20)),(.d 125 (.bin .eql 124 (.const (.i 0)))),(.d 126 (.mv 16)),(.d 127 (.bin .eql 126 (.const (.i 0)))),(.d 128 (.mv 127)),(.g 129 (.mv 18) 128 true),(.g 130 (.bin .eql 129 (.const (.i 0))) 128 true),(.d 131 (.pick 128 130 (.const (.bool false)))),(.d 132 (.yC true 125 131)),(.d 133 (.mv 132)),(.g 134 (.mv 29) 133 false),(.g 135 (.bin .eql 134 (.const (.i 0))) 133 false),(.g 136 (.mv 23) 133 false),(.g 137 (.bin .eql 136 (.const (.i 0))) 133 false),(.g 138 (.mv 137) 133 false),(.g 139 (.mv 26) 138 true),(.g 140 (.bin .eql 139 (.const (.i 0))) 138 true),(.g 141 (.pick 138 140 (.const (.bool false))) 133 false),(.g 142 (.yC true 135 141) 133 false),(.d 143 (.pick 133 (.const (.bool true)) 142))]) (.cond 143 (.seq (.ops [(.d 8 (.mv (.const (.bool false))))]) .ret) .skip)) (.seq (.draw [(.d 144 (.mv 20)),(.d 145 (.bin .neq 144 (.const (.i 0)))),(.d 146 (.mv 145)),(.g 147 (.load (some 4) 19) 146 false),(.g 148 (.load (some 4) 15) 146 false),(.g 149 (.load (some 4) 17) 146 false),(.g 150 (.lit 4 72 [] 2 [(0,148),(1,149)]) 146 false),(.g 151 (.call 151 [150]) 146 false),(.g 152 (.call 158 [147,151]) 146 false),(.d 153 (.pick 146 (.const (.bool true)) 152)),(.d 154 (.mv 153)),(.g 155 (.mv 29) 154 true),(.g 156 (.bin .neq 155 (.const (.i 0))) 154 true),(.g 157 (.mv 156) 154 true),(.g 158 (.load (some 4) 28) 157 false),(.g 159 (.load (some 4) 22) 157 false),(.g 160 (.load (some 4) 25) 157 false),(.g 161 (.lit 4 72 [] 2 [(0,159),(1,160)]) 157 false),(.g 162 (.call 151 [161]) 157 false),(.g 163 (.call 158 [158,162]) 157 false),(.g 164 (.pick 157 (.const (.bool true)) 163) 154 true),(.d 165 (.pick 154 164 (.const (.bool false)))),(.d 166 (.mv 165)),(.g 167 (.mv 20) 166 true),(.g 168 (.bin .eql 167 (.const (.i 0))) 166 true),(.g 169 (.mv 168) 166 true),(.g 170 (.aC 0 19) 169 false),(.g 171 (.load none 170) 169 false),(.g 172 (.bin .eql 171 (.const (.i 4))) 169 false),(.g 173 (.pick 169 (.const (.bool true)) 172) 166 true),(.d 174 (.pick 166 173 (.const (.bool false)))),(.d 8 (.mv 174))] []) .ret)))))))))))))))
def KQ :aO:=(.mk 0 37 [0] (.seq (.ops [(.d 0 (.mv (.const (.bool false))))]) (.seq (.ops [(.d 8 (.call 142 [(.const (.str [123,97,58,32,105,110,116,125,32,124,32,123,97,58,32,98,111,111,108,44,32,98,58,32,105,110,116,125]))])),(.d 7 (.mv 8)),(.d 9 (.ext 7 0)),(.d 10 (.ext 7 1)),(.d 1 (.alloc [(.i 0),(.str []),.nl,.nl] 175)),(.n (.store 4 1 9)),(.d 2 (.mv 10))]) (.seq (.iq [] (.alt (.d 12 (.call 144 [(.const .nl)])) [] (.alt (.d 13 (.load (some 4) 1)) [] (.alt (.d 14 (.call 156 [12,13,(.const (.str [97]))])) [] (.alt (.d 11 (.mv 14)) [] (.alt (.d 15 (.ext 11 0)) [] (.alt (.d 16 (.ext 11 1)) [] (.alt (.d 3 (.alloc [(.i 0),(.str []),.nl,.nl] 175)) [] (.alt (.n (.store 4 3 15)) [] (.alt (.d 4 (.mv 16)) [] .done .stop) .stop) .stop) .stop) .stop) .stop) (.alt (.d 3 (.alloc [(.i 0),(.str []),.nl,.nl] 175)) [] (.alt (.d 14 (.call 156 [12,13,(.const (.str [97]))])) [] (.alt (.d 11 (.mv 14)) [] (.alt (.d 15 (.ext 11 0)) [] (.alt (.d 16 (.ext 11 1)) [] (.alt (.n (.store 4 3 15)) [] (.alt (.d 4 (.mv 16)) [] .done .stop) .stop) .stop) .stop) .stop) .stop) .stop)) (.alt (.d 3 (.alloc [(.i 0),(.str []),.nl,.nl] 175)) [] (.alt (.d 13 (.load (some 4) 1)) [] (.alt (.d 14 (.call 156 [12,13,(.const (.str [97]))])) [] (.alt (.d 11 (.mv 14)) [] (.alt (.d 15 (.ext 11 0)) [] (.alt (.d 16 (.ext 11 1)) [] (.alt (.n (.store 4 3 15)) [] (.alt (.d 4 (.mv 16)) [] .done .stop) .stop) .stop) .stop) .stop) .stop) .stop) .stop)) (.alt (.d 13 (.load (some 4) 1)) [] (.alt (.d 12 (.call 144 [(.const .nl)])) [] (.alt (.d 14 (.call 156 [12,13,(.const (.str [97]))])) [] (.alt (.d 11 (.mv 14)) [] (.alt (.d 15 (.ext 11 0)) [] (.alt (.d 16 (.ext 11 1)) [] (.alt (.d 3 (.alloc [(.i 0),(.str []),.nl,.nl] 175)) [] (.alt (.n (.store 4 3 15)) [] (.alt (.d 4 (.mv 16)) [] .done .stop) .stop) .stop) .stop) .stop) .stop) (.alt (.d 3 (.alloc [(.i 0),(.str []),.nl,.nl] 175)) [] (.alt (.d 14 (.call 156 [12,13,(.const (.str [97]))])) [] (.alt (.d 11 (.mv 14)) [] (.alt (.d 15 (.ext 11 0)) [] (.alt (.d 16 (.ext 11 1)) [] (.alt (.n (.store 4 3 15)) [] (.alt (.d 4 (.mv 16)) [] .done .stop) .stop) .stop) .stop) .stop) .stop) .stop)) (.alt (.d 3 (.alloc [(.i 0),(.str []),.nl,.nl] 175)) [] (.alt (.d 12 (.call 144 [(.const .nl)])) [] (.alt (.d 14 (.call 156 [12,13,(.const (.str [97]))])) [] (.alt (.d 11 (.mv 14)) [] (.alt (.d 15 (.ext 11 0)) [] (.alt (.d 16 (.ext 11 1)) [] (.alt (.n (.store 4 3 15)) [] (.alt (.d 4 (.mv 16)) [] .done .stop) .stop) .stop) .stop) .stop) .stop) .stop) .stop)) (.alt (.d 3 (.alloc [(.i 0),(.str []),.nl,.nl] 175)) [] (.alt (.d 12 (.call 144 [(.const .nl)])) [] (.alt (.d 13 (.load (some 4) 1)) [] (.alt (.d 14 (.call 156 [12,13,(.const (.str [97]))])) [] (.alt (.d 11 (.mv 14)) [] (.alt (.d 15 (.ext 11 0)) [] (.alt (.d 16 (.ext 11 1)) [] (.alt (.n (.store 4 3 15)) [] (.alt (.d 4 (.mv 16)) [] .done .stop) .stop) .stop) .stop) .stop) .stop) .stop) (.alt (.d 13 (.load (some 4) 1)) [] (.alt (.d 12 (.call 144 [(.const .nl)])) [] (.alt (.d 14 (.call 156 [12,13,(.const (.str [97]))])) [] (.alt (.d 11 (.mv 14)) [] (.alt (.d 15 (.ext 11 0)) [] (.alt (.d 16 (.ext 11 1)) [] (.alt (.n (.store 4 3 15)) [] (.alt (.d 4 (.mv 16)) [] .done .stop) .stop) .stop) .stop) .stop) .stop) .stop) .stop)) .stop)))) (.seq (.iq [] (.alt (.d 18 (.call 144 [(.const .nl)])) [] (.alt (.d 19 (.load (some 4) 1)) [] (.alt (.d 20 (.call 156 [18,19,(.const (.str [98]))])) [] (.alt (.d 17 (.mv 20)) [] (.alt (.d 21 (.ext 17 0)) [] (.alt (.d 22 (.ext 17 1)) [] (.alt (.d 5 (.alloc [(.i 0),(.str []),.nl,.nl] 175)) [] (.alt (.n (.store 4 5 21)) [] (.alt (.d 6 (.mv 22)) [] .done .stop) .stop) .stop) .stop) .stop) .stop) (.alt (.d 5 (.alloc [(.i 0),(.str []),.nl,.nl] 175)) [] (.alt (.d 20 (.call 156 [18,19,(.const (.str [98]))])) [] (.alt (.d 17 (.mv 20)) [] (.alt (.d 21 (.ext 17 0)) [] (.alt (.d 22 (.ext 17 1)) [] (.alt (.n (.store 4 5 21)) [] (.alt (.d 6 (.mv 22)) [] .done .stop) .stop) .stop) .stop) .stop) .stop) .stop)) (.alt (.d 5 (.alloc [(.i 0),(.str []),.nl,.nl] 175)) [] (.alt (.d 19 (.load (some 4) 1)) [] (.alt (.d 20 (.call 156 [18,19,(.const (.str [98]))])) [] (.alt (.d 17 (.mv 20)) [] (.alt (.d 21 (.ext 17 0)) [] (.alt (.d 22 (.ext 17 1)) [] (.alt (.n (.store 4 5 21)) [] (.alt (.d 6 (.mv 22)) [] .done .stop) .stop) .stop) .stop) .stop) .stop) .stop) .stop)) (.alt (.d 19 (.load (some 4) 1)) [] (.alt (.d 18 (.call 144 [(.const .nl)])) [] (.alt (.d 20 (.call 156 [18,19,(.const (.str [98]))])) [] (.alt (.d 17 (.mv 20)) [] (.alt (.d 21 (.ext 17 0)) [] (.alt (.d 22 (.ext 17 1)) [] (.alt (.d 5 (.alloc [(.i 0),(.str []),.nl,.nl] 175)) [] (.alt (.n (.store 4 5 21)) [] (.alt (.d 6 (.mv 22)) [] .done .stop) .stop) .stop) .stop) .stop) .stop) (.alt (.d 5 (.alloc [(.i 0),(.str []),.nl,.nl] 175)) [] (.alt (.d 20 (.call 156 [18,19,(.const (.str [98]))])) [] (.alt (.d 17 (.mv 20)) [] (.alt (.d 21 (.ext 17 0)) [] (.alt (.d 22 (.ext 17 1)) [] (.alt (.n (.store 4 5 21)) [] (.alt (.d 6 (.mv 22)) [] .done .stop) .stop) .stop) .stop) .stop) .stop) .stop)) (.alt (.d 5 (.alloc [(.i 0),(.str []),.nl,.nl] 175)) [] (.alt (.d 18 (.call 144 [(.const .nl)])) [] (.alt (.d 20 (.call 156 [18,19,(.const (.str [98]))])) [] (.alt (.d 17 (.mv 20)) [] (.alt (.d 21 (.ext 17 0)) [] (.alt (.d 22 (.ext 17 1)) [] (.alt (.n (.store 4 5 21)) [] (.alt (.d 6 (.mv 22)) [] .done .stop) .stop) .stop) .stop) .stop) .stop) .stop) .stop)) (.alt (.d 5 (.alloc [(.i 0),(.str []),.nl,.nl] 175)) [] (.alt (.d 18 (.call 144 [(.const .nl)])) [] (.alt (.d 19 (.load (some 4) 1)) [] (.alt (.d 20 (.call 156 [18,19,(.const (.str [98]))])) [] (.alt (.d 17 (.mv 20)) [] (.alt (.d 21 (.ext 17 0)) [] (.alt (.d 22 (.ext 17 1)) [] (.alt (.n (.store 4 5 21)) [] (.alt (.d 6 (.mv 22)) [] .done .stop) .stop) .stop) .stop) .stop) .stop) .stop) (.alt (.d 19 (.load (some 4) 1)) [] (.alt (.d 18 (.call 144 [(.const .nl)])) [] (.alt (.d 20 (.call 156 [18,19,(.const (.str [98]))])) [] (.alt (.d 17 (.mv 20)) [] (.alt (.d 21 (.ext 17 0)) [] (.alt (.d 22 (.ext 17 1)) [] (.alt (.n (.store 4 5 21)) [] (.alt (.d 6 (.mv 22)) [] .done .stop) .stop) .stop) .stop) .stop) .stop) .stop) .stop)) .stop)))) (.seq (.ops [(.d 23 (.mv 2)),(.d 24 (.mv 23)),(.g 25 (.load (some 4) 3) 24 true),(.g 26 (.call 150 [25]) 24 true),(.g 27 (.bin .eql 26 (.const (.str [98,111,111,108,32,124,32,105,110,116]))) 24 true),(.d 28 (.pick 24 27 (.const (.bool false)))),(.d 29 (.mv 28)),(.g 30 (.mv 4) 29 true),(.g 31 (.bin .eql 30 (.const (.i 0))) 29 true),(.d 32 (.pick 29 31 (.const (.bool false)))),(.d 33 (.mv 32)),(.g 34 (.mv 6) 33 true),(.g 35 (.bin .eql 34 (.const (.i 2))) 33 true),(.d 36 (.pick 33 35 (.const (.bool false)))),(.d 0 (.mv 36))]) .ret))))))
def OB :aO:=(.mk 2 59 [4,5,6,7,8] (.seq (.ops [(.d 4 (.mv (.const .fD))),(.d 5 (.mv (.const .nl))),(.d 6 (.mv (.const .nl))),(.d 7 (.mv (.const .nl))),(.d 8 (.mv (.const (.bool false))))]) (.seq (.ops [(.d 18 (.mv 0)),(.d 19 (.call 147 [18])),(.d 17 (.mv 19)),(.d 20 (.ext 17 0)),(.d 21 (.ext 17 1)),(.d 22 (.ext 17 2)),(.d 9 (.mv 20)),(.d 10 (.mv 21)),(.d 11 (.mv 22))]) (.seq (.ops [(.d 24 (.mv 1)),(.d 25 (.call 194 [24])),(.d 23 (.mv 25)),(.d 26 (.ext 23 0)),(.d 27 (.ext 23 1)),(.d 28 (.ext 23 2)),(.d 12 (.mv 26)),(.d 13 (.mv 27)),(.d 14 (.mv 28))]) (.seq (.seq (.ops [(.d 29 (.mv 11)),(.d 30 (.un .not 29)),(.d 31 (.mv 30)),(.g 32 (.mv 14) 31 false),(.g 33 (.un .not 32) 31 false),(.d 34 (.pick 31 (.const (.bool true)) 33)),(.d 35 (.mv 34)),(.g 36 (.mv 10) 35 false),(.g 37 (.call 148 [36]) 35 false),(.g 38 (.un .not 37) 35 false),(.d 39 (.pick 35 (.const (.bool true)) 38))]) (.cond 39 (.seq (.ops [(.d 4 (.mv (.const .fD))),(.d 5 (.mv (.const .nl))),(.d 6 (.mv (.const .nl))),(.d 7 (.mv (.const .nl))),(.d 8 (.mv (.const (.bool false))))]) .ret) .skip)) (.seq (.ops [(.d 15 (.mv (.const (.i 0))))]) (.seq (.seq (.ops [(.d 16 (.mv (.const (.i 0))))]) (.block 0 (.loop (.seq (.seq (.ops [(.d 40 (.mv 16)),(.d 41 (.mv 13)),(.d 42 (.jU 41)),(.d 43 (.bin .lss 40 42))]) (.cond 43 .skip (.exit 0))) (.seq (.block 1 (.ops [(.d 46 (.mv 15)),(.d 47 (.mv 13)),(.d 48 (.mv 16)),(.d 49 (.bH 4 47 48)),(.d 50 (.load (some 4) 49)),(.d 51 (.call 190 [50])),(.d 52 (.bin .add 46 51)),(.d 15 (.mv 52))])) (.ops [(.d 44 (.mv 16)),(.d 45 (.bin .add 44 (.const (.i 1)))),(.d 16 (.mv 45))])))))) (.seq (.ops [(.d 53 (.mv 9)),(.d 54 (.mv 10)),(.d 55 (.mv 12)),(.d 56 (.mv 13)),(.d 57 (.mv 15)),(.d 58 (.bin .leq 57 (.const (.i 40)))),(.d 4 (.mv 53)),(.d 5 (.mv 54)),(.d 6 (.mv 55)),(.d 7 (.mv 56)),(.d 8 (.mv 58))]) .ret))))))))
def Um :aO:=(.mk 3 24 [(.cell 6 (some 4)),7] (.seq (.ops [(.d 4 (.box 175 1)),(.d 5 (.box 10 2)),(.d 6 (.alloc [(.i 0),(.str []),.nl,.nl] 175)),(.d 7 (.mv (.const (.i 0))))]) (.seq (.ops [(.d 11 (.mv 0)),(.d 12 (.load (some 4) 4)),(.d 13 (.mkF (.func 196) [] [5])),(.d 14 (.call 195 [11,12,13])),(.d 10 (.mv 14)),(.d 15 (.ext 10 0)),(.d 16 (.ext 10 1)),(.d 8 (.mv 15)),(.d 9 (.mv 16))]) (.seq (.seq (.ops [(.d 17 (.mv 9)),(.d 18 (.bin .neq 17 (.const (.i 0))))]) (.cond 18 (.seq (.ops [(.d 19 (.call 198 [])),(.d 20 (.mv 9)),(.n (.store 4 6 19)),(.d 7 (.mv 20))]) .ret) .skip)) (.seq (.ops [(.d 21 (.mv 8)),(.d 22 (.call 151 [21])),(.d 23 (.mv 9)),(.n (.store 4 6 22)),(.d 7 (.mv 23))]) .ret)))))
def Ul :aO:=(.mk 2 25 [4,(.cell 5 (some 4)),6] (.seq (.ops [(.d 3 (.box 175 1)),(.d 4 (.mv (.const .nl))),(.d 5 (.alloc [(.i 0),(.str []),.nl,.nl] 175)),(.d 6 (.mv (.const (.i 0))))]) (.seq (.ops [(.d 7 (.alloc [.nl] 173))]) (.seq (.ops [(.d 11 (.mv 0)),(.d 12 (.load (some 4) 3)),(.d 13 (.mkF (.func 199) [] [7])),(.d 14 (.call 195 [11,12,13])),(.d 10 (.mv 14)),(.d 15 (.ext 10 0)),(.d 16 (.ext 10 1)),(.d 8 (.mv 15)),(.d 9 (.mv 16))]) (.seq (.seq (.ops [(.d 17 (.mv 9)),(.d 18 (.bin .neq 17 (.const (.i 0))))]) (.cond 18 (.seq (.ops [(.d 19 (.call 198 [])),(.d 20 (.mv 9)),(.d 4 (.mv (.const .nl))),(.n (.store 4 5 19)),(.d 6 (.mv 20))]) .ret) .skip)) (.seq (.iq [(.d 21 (.load none 7)),(.d 22 (.mv 8)),(.d 24 (.mv 9))] (.alt (.d 23 (.call 151 [22])) [(none,7)] (.alt (.d 4 (.mv 21)) [] (.alt (.n (.store 4 5 23)) [] (.alt (.d 6 (.mv 24)) [] .done .stop) .stop) .stop) .stop)) .ret))))))
def OA :aO:=(.mk 2 10 [4] (.seq (.ops [(.d 2 (.box 175 0)),(.d 3 (.box 175 1)),(.d 4 (.mv (.const (.bool false))))]) (.seq (.iq [(.d 5 (.load (some 4) 2)),(.d 7 (.load (some 4) 3))] (.alt (.d 6 (.call 150 [5])) [((some 4),3)] (.alt (.d 8 (.call 150 [7])) [] (.alt (.d 9 (.bin .eql 6 8)) [] (.alt (.d 4 (.mv 9)) [] .done .stop) .stop) .stop) .stop)) .ret)))
def Uc :aO:=(.mk 1 59 [2,3,4] (.seq (.ops [(.d 2 (.mv (.const .nl))),(.d 3 (.mv (.const .nl))),(.d 4 (.mv (.const (.bool false))))]) (.seq (.ops [(.d 5 (.mv (.const .nl)))]) (.seq (.ops [(.d 6 (.mv (.const .nl)))]) (.seq (.seq (.ops [(.d 7 (.mv (.const (.i 0))))]) (.block 0 (.loop (.seq (.seq (.ops [(.d 12 (.mv 7)),(.d 13 (.mv 0)),(.d 14 (.jU 13)),(.d 15 (.bin .lss 12 14))]) (.cond 15 .skip (.exit 0))) (.seq (.block 1 (.seq (.seq (.ops [(.d 18 (.mv 0)),(.d 19 (.mv 7)),(.d 20 (.bH 1 18 19)),(.d 21 (.load none 20)),(.d 22 (.pU 21)),(.d 23 (.bin .gtr 22 (.const (.i 600))))]) (.cond 23 (.seq (.ops [(.d 2 (.mv (.const .nl))),(.d 3 (.mv (.const .nl))),(.d 4 (.mv (.const (.bool false))))]) .ret) .skip)) (.seq (.ops [(.d 25 (.mv 0)),(.d 26 (.mv 7)),(.d 27 (.bH 1 25 26)),(.d 28 (.load none 27)),(.d 29 (.call 142 [28])),(.d 24 (.mv 29)),(.d 30 (.ext 24 0)),(.d 31 (.ext 24 1)),(.d 8 (.alloc [(.i 0),(.str []),.nl,.nl] 175)),(.n (.store 4 8 30)),(.d 9 (.mv 31))]) (.seq (.ops [(.d 33 (.mv 0)),(.d 34 (.mv 7)),(.d 35 (.bH 1 33 34)),(.d 36 (.load none 35)),(.d 37 (.call 233 [36])),(.d 32 (.mv 37)),(.d 38 (.ext 32 0)),(.d 39 (.ext 32 1)),(.d 10 (.alloc [(.i 0),(.str []),.nl,.nl] 109)),(.n (.store 4 10 38)),(.d 11 (.mv 39))]) (.seq (.seq (.ops [(.d 40 (.mv 9)),(.d 41 (.un .not 40)),(.d 42 (.mv 41)),(.g 43 (.mv 11) 42 false),(.g 44 (.un .not 43) 42 false),(.d 45 (.pick 42 (.const (.bool true)) 44))]) (.cond 45 (.seq (.ops [(.d 2 (.mv (.const .nl))),(.d 3 (.mv (.const .nl))),(.d 4 (.mv (.const (.bool false))))]) .ret) .skip)) (.seq (.ops [(.d 46 (.mv 5)),(.d 47 (.load (some 4) 8)),(.d 48 (.lit 4 72 [] 1 [(0,47)])),(.d 49 (.append 4 72 175 46 48)),(.d 5 (.mv 49))]) (.ops [(.d 50 (.mv 6)),(.d 51 (.load (some 4) 10)),(.d 52 (.lit 4 72 [] 1 [(0,51)])),(.d 53 (.append 4 72 109 50 52)),(.d 6 (.mv 53))]))))))) (.ops [(.d 16 (.mv 7)),(.d 17 (.bin .add 16 (.const (.i 1)))),(.d 7 (.mv 17))])))))) (.seq (.ops [(.d 54 (.mv 5)),(.d 55 (.mv 6)),(.d 56 (.mv 0)),(.d 57 (.jU 56)),(.d 58 (.bin .leq 57 (.const (.i 12)))),(.d 2 (.mv 54)),(.d 3 (.mv 55)),(.d 4 (.mv 58))]) .ret))))))
def Oy :aO:=(.mk 3 38 [6,7] (.seq (.ops [(.d 4 (.box 175 1)),(.d 6 (.mv (.const .nl))),(.d 7 (.mv (.const (.i 0))))]) (.seq (.ops [(.d 8 (.mv (.const .nl)))]) (.seq (.seq (.ops [(.d 13 (.mv 0)),(.d 14 (.load (some 4) 4)),(.d 15 (.call 149 [13,14])),(.d 16 (.jU 15)),(.d 17 (.mv (.const (.i 0))))]) (.block 0 (.loop (.seq (.ops [(.d 18 (.bin .lss 17 16))]) (.seq (.cond 18 .skip (.exit 0)) (.seq (.block 1 (.seq (.ops [(.d 19 (.bH 4 15 17)),(.d 20 (.load (some 4) 19)),(.d 10 (.alloc [(.i 0),(.str []),.nl,.nl] 175)),(.n (.store 4 10 20))]) (.seq (.seq (.ops [(.d 21 (.aC 0 10)),(.d 22 (.load none 21)),(.d 23 (.bin .eql 22 (.const (.i 4))))]) (.cond 23 (.seq (.ops [(.d 6 (.mv (.const .nl))),(.d 7 (.mv (.const (.i 1))))]) .ret) .skip)) (.seq (.ops [(.d 25 (.mv 2)),(.d 26 (.load (some 4) 10)),(.d 27 (.jV 25 [26])),(.d 24 (.mv 27)),(.d 28 (.ext 24 0)),(.d 29 (.ext 24 1)),(.d 11 (.alloc [(.i 0),(.str []),.nl,.nl] 175)),(.n (.store 4 11 28)),(.d 12 (.mv 29))]) (.seq (.seq (.ops [(.d 30 (.mv 12)),(.d 31 (.un .not 30))]) (.cond 31 (.seq (.ops [(.d 6 (.mv (.const .nl))),(.d 7 (.mv (.const (.i 2))))]) .ret) .skip)) (.ops [(.d 32 (.mv 8)),(.d 33 (.load (some 4) 11)),(.d 34 (.lit 4 72 [] 1 [(0,33)])),(.d 35 (.append 4 72 175 32 34)),(.d 8 (.mv 35))])))))) (.ops [(.d 36 (.bin .add 17 (.const (.i 1)))),(.d 17 (.mv 36))]))))))) (.seq (.ops [(.d 37 (.mv 8)),(.d 6 (.mv 37)),(.d 7 (.mv (.const (.i 0))))]) .ret)))))
def Ub :aO:=(.mk 2 26 [(.cell 3 (some 4)),4] (.seq (.ops [(.d 2 (.box 175 0)),(.d 3 (.alloc [(.i 0),(.str []),.nl,.nl] 175)),(.d 4 (.mv (.const (.bool false))))]) (.seq (.seq (.ops [(.d 7 (.aC 0 2)),(.d 8 (.load none 7)),(.d 9 (.bin .neq 8 (.const (.i 5))))]) (.cond 9 (.seq (.ops [(.d 10 (.build [(.i 0),(.str []),.nl,.nl] [])),(.n (.store 4 3 10)),(.d 4 (.mv (.const (.bool false))))]) .ret) .skip)) (.seq (.ops [(.d 12 (.aC 2 2)),(.d 13 (.load none 12)),(.d 14 (.load none 1)),(.d 15 (.call 197 [13,14])),(.d 11 (.mv 15)),(.d 16 (.ext 11 0)),(.d 17 (.ext 11 1)),(.d 5 (.mv 16)),(.d 6 (.mv 17))]) (.seq (.seq (.ops [(.d 18 (.mv 6)),(.d 19 (.un .not 18))]) (.cond 19 (.seq (.ops [(.d 20 (.build [(.i 0),(.str []),.nl,.nl] [])),(.n (.store 4 3 20)),(.d 4 (.mv (.const (.bool false))))]) .ret) .skip)) (.seq (.ops [(.d 21 (.aC 3 2)),(.d 22 (.load none 21)),(.d 23 (.mv 5)),(.d 24 (.bH 4 22 23)),(.d 25 (.load (some 4) 24)),(.n (.store 4 3 25)),(.d 4 (.mv (.const (.bool true))))]) .ret))))))
def Ow :aO:=(.mk 0 2 [(.cell 0 (some 4))] (.seq (.ops [(.d 0 (.alloc [(.i 0),(.str []),.nl,.nl] 175))]) (.seq (.ops [(.d 1 (.build [(.i 0),(.str []),.nl,.nl] [(0,(1,(.const (.i 4))))])),(.n (.store 4 0 1))]) .ret)))
def Ov :aO:=(.mk 2 22 [(.cell 3 (some 4)),4] (.seq (.ops [(.d 2 (.box 175 0)),(.d 3 (.alloc [(.i 0),(.str []),.nl,.nl] 175)),(.d 4 (.mv (.const (.bool false))))]) (.seq (.seq (.ops [(.d 5 (.aC 0 2)),(.d 6 (.load none 5)),(.d 7 (.bin .neq 6 (.const (.i 6))))]) (.cond 7 (.seq (.ops [(.d 8 (.build [(.i 0),(.str []),.nl,.nl] [])),(.n (.store 4 3 8)),(.d 4 (.mv (.const (.bool false))))]) .ret) .skip)) (.seq (.iq [(.d 9 (.load none 1)),(.d 10 (.aC 3 2)),(.d 11 (.load none 10)),(.d 12 (.bH 4 11 (.const (.i 0)))),(.d 13 (.load (some 4) 12)),(.d 14 (.jU 9)),(.d 15 (.lit 4 72 [] 1 [(0,(.const (.agg [(.i 0),(.str []),.nl,.nl])))]))] (.alt (.d 16 (.append 4 72 175 9 15)) [] (.alt (.d 17 (.bH 4 16 14)) [] (.alt (.n (.store 4 17 13)) [] (.alt (.n (.store 1 1 16)) [] .done .stop) (.alt (.n (.store 1 1 16)) [] (.alt (.n (.store 4 17 13)) [] .done .stop) .stop)) (.alt (.n (.store 1 1 16)) [] (.alt (.d 17 (.bH 4 16 14)) [] (.alt (.n (.store 4 17 13)) [] .done .stop) .stop) .stop)) .stop)) (.seq (.ops [(.d 18 (.aC 3 2)),(.d 19 (.load none 18)),(.d 20 (.bH 4 19 (.const (.i 1)))),(.d 21 (.load (some 4) 20)),(.n (.store 4 3 21)),(.d 4 (.mv (.const (.bool true))))]) .ret)))))
def TL :aO:=(.mk 1 29 [(.cell 2 (some 4)),3] (.seq (.ops [(.d 2 (.alloc [(.i 0),(.str []),.nl,.nl] 109)),(.d 3 (.mv (.const (.bool false))))]) (.seq (.ops [(.d 6 (.mv 0)),(.d 7 (.call 39 [6])),(.d 4 (.alloc [.nl,(.i 0),.nl,(.bool false)] 83)),(.n (.store 4 4 7))]) (.seq (.ops [(.d 8 (.call 62 [4,(.const (.i 1))])),(.d 5 (.alloc [(.i 0),(.str []),.nl,.nl] 109)),(.n (.store 4 5 8))]) (.seq (.seq (.ops [(.d 9 (.aC 3 4)),(.d 10 (.load none 9)),(.d 11 (.mv 10)),(.g 12 (.aC 0 4) 11 false),(.g 13 (.load none 12) 11 false),(.g 14 (.aC 1 4) 11 false),(.g 15 (.load none 14) 11 false),(.g 16 (.bH 3 13 15) 11 false),(.g 17 (.aC 0 16) 11 false),(.g 18 (.load none 17) 11 false),(.g 19 (.bin .neq 18 (.const (.i 6))) 11 false),(.d 20 (.pick 11 (.const (.bool true)) 19)),(.d 21 (.mv 20)),(.g 22 (.aC 2 4) 21 false),(.g 23 (.load none 22) 21 false),(.g 24 (.jU 23) 21 false),(.g 25 (.bin .gtr 24 (.const (.i 0))) 21 false),(.d 26 (.pick 21 (.const (.bool true)) 25))]) (.cond 26 (.seq (.ops [(.d 27 (.build [(.i 0),(.str []),.nl,.nl] [])),(.n (.store 4 2 27)),(.d 3 (.mv (.const (.bool false))))]) .ret) .skip)) (.seq (.ops [(.d 28 (.load (some 4) 5)),(.n (.store 4 2 28)),(.d 3 (.mv (.const (.bool true))))]) .ret))))))
end Go.Ag
/- Package parts: each (what each head gives). -/
namespace Go.Ag
open Go
variable {T : Tab} {L : Lnk} {σ : Type}
def nT (e:fJ):Heap:=[.map (dh e.by_ 0) e.by_.length,.map (gP e.empty 0) e.empty.length,.cells [.map 2,.map 3] 234]
def oN (f:σ→TA→Option TA×σ):σ→List TA→List TA→(List TA×Nat)×σ
 |s,acc,[]=>((acc,0),s)
 |s,acc,h::hs=>if h.kind=4 then(([],1),s)else match f s h with
  |(none,s')=>(([],2),s')
  |(some x,s')=>oN f s' (acc ++[x]) hs
theorem Ec {f:σ→TA→Option TA×σ} {part:TA→Option TA} (h:∀s t,(f s t).1=part t):∀(hs acc:List TA) (s:σ),(oN f s acc hs).1=nD part acc hs
 |[],acc,s=>rfl
 |t::hs,acc,s=>by
  rw[oN,nD];split
  ·rfl
  ·have:=h s t
   generalize f s t=q at this;obtain⟨a,b⟩:=q;dsimp only at this;subst this
   cases part t with
   |none=>rfl
   |some x=>exact Ec h hs (acc ++[x]) b
structure M6 (T:Tab) (g:Nat) (p q:σ→aU) (P:Nat→σ→Prop) (f:σ→TA→Option TA×σ):Prop where
 Pv:∀s,bE 2 (p s)
 Pt:∀s,bE 2 (q s)
 call:∀n s y,P n s→n<2^30→NT y→wtT y≤2^30→eu T.L g [y.av,.ptr 0 0] [p s,q s] (.tup [((f s y).1.getD jE).av,.bool (f s y).1.isSome]) [p (f s y).2,q (f s y).2]
 next:∀n s y,P n s→P (n+1) (f s y).2
theorem F7 (ME:T.has 195 Oy) {g:Nat} {p q:σ→aU} {P:Nat→σ→Prop} {f:σ→TA→Option TA×σ} (A:M6 T g p q P f) {e:fJ} {t:TA} {hs:List TA} (hH:EK T.L 149 [t.av] e (.lst (TA.avs hs) .none))
  (hn:∀h∈hs,NT h∧wtT h≤2^30) (hl:hs.length≤2^29) (s:σ) (h0:P 0 s):
  eu T.L 195 [.ptr 4 0,t.av,.fn (.func g) [] [.ptr 0 0]] (p s::q s::nT e) (.tup [.lst (TA.avs (oN f s [] hs).1.1) .none,.int .i64 (oN f s [] hs).1.2]) (p (oN f s [] hs).2::q (oN f s [] hs).2::nT e):=by
 have RA:∀n,5≤n→fU n (nT e):=fun n h=>⟨aJ (Nat.zero_le _) (fH 0 _ _),aJ (Nat.zero_le _) (gK 0 _ _),eB ⟨.map _ (by omega),.map _ (by omega),trivial⟩,trivial⟩
 refine eu.of 1 rfl (.tup _ (fT.at ⟨.lst _ _ trivial (aV _ _),.int _ _,trivial⟩)) (fU.at ⟨aJ (by show 2≤5;decide) (A.Pv _),aJ (by show 2≤5;decide) (A.Pt _),RA 5 (Nat.le_refl _)⟩)
  (aD.mono (Q:=fun r H'=>∃J tk,r=.ret (.tup [.lst (TA.avs (oN f s [] hs).1.1) tk,.int .i64 (oN f s [] hs).1.2])∧H'=(p (oN f s [] hs).2::q (oN f s [] hs).2::nT e) ++J) ?_ fun r H' ⟨J,tk,e1,e2⟩=>⟨_,_,J,e1,Weak.tup ⟨Weak.tok _ _,Weak.refl _,trivial⟩,e2,rfl,fun i x y h1 h2=>by rw[h1]at h2;cases h2;exact bU.refl x⟩)
 refine aI ME (by simp[Oy]) ?_;unfold nT at RA⊢;obtain⟨fin,hfin⟩:∃fin,oN f s [] hs=fin:=⟨_,rfl⟩;rw[hfin];have hlq:=aT 0 t;have hE:∀(o:aU) (J:Heap),K5 e (p s::q s::.map (dh e.by_ 0) e.by_.length::.map (gP e.empty 0) e.empty.length::.cells [.map 2,.map 3] 234::o::J) 2:=fun o J=>⟨rfl,rfl,rfl⟩
 obtain⟨tk,tn,ts,tl⟩:=t;conv=>whnf
 refine hH.any (dI hlq) (.lst _ _ trivial (aV 0 _)) (hE _ _) ?_;conv=>whnf
 intro I hI hG
 have key:∀(d j:Nat) (s1:σ) (acc:List TA) (e':Env),hs.length-j=d→j≤hs.length→acc.length=j→P j s1→oN f s1 acc (hs.drop j)=fin→
   I (gT e' [(2,.fn (.func g) [] [.ptr 0 0]),(8,.lst (TA.avs acc) (bG acc.length 5)),(15,.lst (TA.avs hs) .none),(16,.int .i64 hs.length),(17,.int .i64 j)])
    [p s1,q s1,.map (dh e.by_ 0) e.by_.length,.map (gP e.empty 0) e.empty.length,.cells [.map 2,.map 3] 234,bA acc.length 175,cK (.mk tk tn ts tl)]:=by
  intro d
  induction d with
  |zero=>
   intro j s1 acc e' hd hj ha hP hf;have hjl:j=hs.length:=by omega
   rw[hjl,List.drop_length,oN]at hf;subst hf;apply hI;conv=>whnf
   rw[dA (by omega)];conv=>whnf
   exact⟨_,_,rfl,rfl⟩
  |succ d ihd=>
   intro j s1 acc e' hd hj ha hP hf;have hjl:j<hs.length:=by omega
   rw[List.drop_eq_getElem_cons hjl,oN]at hf;have hget:=pG hjl;have hnt:=hn _ (List.getElem_mem hjl);have hnext:=fun s2 acc2 e2=>ihd (j+1) s2 acc2 e2 (by omega) hjl
   generalize hs[j]=v at hget hf hnt;have hc:=A.call j s1 v hP (by omega) hnt.1 hnt.2;have hx:=A.next j s1 v hP;have hlv:∀x∈[v.av,.ptr 0 0],Low 2 x:=fT.at ⟨aT _ _,.ptr _ _ (by decide),trivial⟩;generalize f s1 v=r at hc hf hx;obtain⟨r1,s2⟩:=r;dsimp only at hc hf hx;apply hI;obtain⟨vk,vn,vs,vl⟩:=v;conv=>whnf
   rw[dM hjl];conv=>whnf
   refine step_elem (Int.natCast_nonneg _) hget rfl ?_;conv=>whnf
   by_cases hk:vk=4
   ·subst hk
    rw[if_pos (show(TA.mk 4 vn vs vl).kind=4 from rfl)]at hf;subst hf;conv=>whnf
    exact⟨_,_,rfl,rfl⟩
   rw[if_neg (show¬(TA.mk vk vn vs vl).kind=4 from hk)]at hf;rw[show(vk==4)=false from by simpa using hk];conv=>whnf
   refine hc.to rfl hlv (fU.at ⟨A.Pv _,A.Pt _,trivial⟩) (.tup _ (fT.at ⟨aT _ _,.bool _,trivial⟩)) (fU.at ⟨A.Pv _,A.Pt _,trivial⟩) _ rfl ?_
   cases r1 with
   |none=>
    subst hf;conv=>whnf
    exact⟨_,_,rfl,rfl⟩
   |some x=>
    have hf:oN f s2 (acc ++[x]) (hs.drop (j+1))=fin:=hf;have hacc:(TA.avs acc).length=acc.length:=bL acc;have hnext:=hnext s2 (acc ++[x]);have e1:TA.avs (acc ++[x])=TA.avs acc ++[x.av]:=iF acc [x];have e2:(acc ++[x]).length=(TA.avs acc ++[x.av]).length:=by rw[←e1,bL]
    have hsz:=fF acc;have hs1:=fF [x];rw[e1,e2]at hnext;rw[←hacc]at ha⊢;have hlo:=aV 7 (acc ++[x]);rw[e1]at hlo;have e3:=e2;rw[List.length_append]at e3;obtain⟨xk,xn,xs,xl⟩:=x;conv=>whnf
    refine dQ (xs:=TA.avs acc) (id:=5) (k:=4) (bytes:=72) (t:=175) hsz hs1 (by rw[bL];simp;omega) (by rw[bL];simp;omega) (by simp[TA.avs]) rfl ?_;conv=>whnf
    refine hG.keep [(2,.fn (.func g) [] [.ptr 0 0]),(8,.lst (TA.avs acc ++[(TA.mk xk xn xs xl).av]) (bG (TA.avs acc ++[(TA.mk xk xn xs xl).av]).length 5)),(15,.lst (TA.avs hs) .none),(16,.int .i64 hs.length),(17,.int .i64 (j+1:Nat))]
     [p s2,q s2,.map (dh e.by_ 0) e.by_.length,.map (gP e.empty 0) e.empty.length,.cells [.map 2,.map 3] 234,bA (TA.avs acc ++[(TA.mk xk xn xs xl).av]).length 175,cK (.mk tk tn ts tl)] (Nat.le_refl 7) rfl ⟨rfl,rfl,rfl,rfl,add1 (by omega),trivial⟩
     ⟨.fn _ _ _ gJ (dI (.ptr _ _ (show 0<7 by decide))),.lst _ _ (dJ (show 5<7 by decide)) hlo,.lst _ _ trivial (aV _ _),.int _ _,.int _ _,trivial⟩
     ⟨aJ (show 2≤7 by decide) (A.Pv _),aJ (show 2≤7 by decide) (A.Pt _),(RA 7 (by decide)).1,(RA 7 (by decide)).2.1,(RA 7 (by decide)).2.2.1,bq _ _ _,aJ (Nat.zero_le _) (dK _),trivial⟩ (hnext _ (by rw[←e2,List.length_append,List.length_singleton,←hacc,ha]) hx hf)
 exact inv_of [(2,.fn (.func g) [] [.ptr 0 0]),(8,.lst (TA.avs []) (bG ([]:List TA).length 5)),(15,.lst (TA.avs hs) .none),(16,.int .i64 hs.length),(17,.int .i64 (0:Nat))] ⟨rfl,rfl,rfl,by show aA.int .i64 ((TA.avs hs).length:Nat)=_;rw[bL],rfl,trivial⟩ (key hs.length 0 s [] _ rfl (Nat.zero_le _) rfl h0 hfin)
end Go.Ag
/- Package parts: Field; package types: Alike. -/
namespace Go.Ag
open Go
variable {T : Tab} {L : Lnk}
structure zR (T:Tab):Prop extends zV T where
 WL:T.has 156 Um
 Qa:T.has 158 OA
 ME:T.has 195 Oy
 Wy:T.has 196 Ub
 P9:T.has 197 Ox
 MC:T.has 198 Ow
 J9:T.has 234 KO
 J8:T.has 235 KN
 ED:T.has 267 Gh
theorem Ku (MC:T.has 198 Ow):Pure T.L 198 [] bK.av:=by
 refine Pure.run gJ (aT _ _) (aI MC (by simp[Ow]) ?_);conv=>whnf
 exact⟨_,rfl,Weak.agg ⟨Weak.refl _,Weak.refl _,Weak.tok _ _,Weak.tok _ _,trivial⟩⟩
theorem M9 (F:vY T) (Qa:T.has 158 OA) {a b:TA} (ha:NT a) (hb:NT b) (wa:wtT a≤2^30) (wb:wtT b≤2^30):Pure T.L 158 [a.av,b.av] (.bool (prT a 0==prT b 0)):=by
 have xa:=Xn.GA F ha wa;have xb:=Xn.GA F hb wb;generalize prT a 0=s at xa;generalize prT b 0=u at xb;refine Pure.run (fT.at ⟨aT _ _,aT _ _,trivial⟩) (.bool _) (aI Qa (by simp[OA]) ?_);obtain⟨ak,an,Z0,al⟩:=a;obtain⟨bk,bn,bs,bl⟩:=b;conv=>whnf
 refine xa.to ?_;conv=>whnf
 refine⟨⟨rfl,trivial⟩,?_⟩;refine xb.to ?_;conv=>whnf
 exact aH (Weak.refl _)
theorem Kj (F:zR T) (nm:Bytes) {y:TA} (hy:NT y) (hw:wtT y≤2^30) {q:aU} (hq:bE 2 q):
  eu T.L 196 [y.av,.ptr 0 0] [.cells [.str nm] 10,q] (.tup [((dW nm y).getD jE).av,.bool (dW nm y).isSome]) [.cells [.str nm] 10,q]:=by
 refine eu.of 0 rfl (.tup _ (fT.at ⟨aT _ _,.bool _,trivial⟩)) (fU.at ⟨eB ⟨.str _,trivial⟩,hq,trivial⟩)
  (aD.mono (Q:=fun r H'=>∃x J,r=.ret x∧Weak T.L x (.tup [((dW nm y).getD jE).av,.bool (dW nm y).isSome])∧H'=[.cells [.str nm] 10,q] ++J) ?_ fun r H' ⟨x,J,e1,e2,e3⟩=>⟨x,_,J,e1,e2,e3,rfl,fun i x y h1 h2=>by rw[h1]at h2;cases h2;exact bU.refl x⟩)
 have hz:Weak T.L (.tup [.agg [.int .i64 0,.str [],.lst [] .nil,.lst [] .nil],.bool false]) (.tup [jE.av,.bool false]):=Weak.tup ⟨Weak.agg ⟨Weak.refl _,Weak.refl _,Weak.tok _ _,Weak.tok _ _,trivial⟩,Weak.refl _,trivial⟩;obtain⟨yk,yn,ys,yl⟩:=y;refine aI F.Wy (by simp[Ub]) ?_
 by_cases hk:yk=5
 ·subst hk
  obtain⟨h1,h2⟩:ys.Pairwise (· < ·)∧ys.length=yl.length:=by cases hy;exact⟨‹_›,‹_›⟩
  have hlen:ys.length≤2^40:=by
   have:=Xr ys;rw[wtT]at hw;omega
  have hb:=Ik F.P9 F.J9 F.J8 F.ED ys nm h1 hlen;have hlo:=NI ys nm;have hhas:=JH (nm:=nm) h1
  have hfp:dW nm (.mk 5 yn ys yl)=if nm∈ys then yl[xC ys nm]? else none:=by
   exact if_pos rfl
  rw[hfp];generalize xC ys nm=lo at hb hlo hhas;conv=>whnf
  refine(hb.weak (args:=[.lst (aQ ys) .none,.str nm]) ⟨Weak.refl _,Weak.refl _,trivial⟩).to ?_
  by_cases hm:nm∈ys
  ·rw[decide_eq_true hm,if_pos hm]
   have hlt:lo<yl.length:=by
    have:=hhas.2 hm;have:=(List.getElem?_eq_some_iff.1 this).1;omega
   have hget:=pG hlt;rw[List.getElem?_eq_getElem hlt];generalize yl[lo]=v at hget;obtain⟨vk,vn,vs,vl⟩:=v;conv=>whnf
   refine step_elem (Int.natCast_nonneg _) hget rfl ?_;conv=>whnf
   exact⟨_,_,rfl,Weak.refl _,rfl⟩
  ·rw[decide_eq_false hm,if_neg hm]
   conv=>whnf
   exact⟨_,_,rfl,hz,rfl⟩
 ·rw[show dW nm (.mk yk yn ys yl)=none from by unfold dW;exact if_neg hk]
  conv=>whnf
  rw[show(yk !=5)=true from by simpa using hk];conv=>whnf
  exact⟨_,_,rfl,hz,rfl⟩
theorem SG (F:zR T) (nm:Bytes) (t:TA):M6 (σ:=Unit) T 196 (fun _=>.cells [.str nm] 10) (fun _=>cK t) (fun _ _=>True) (fun _ h=>(dW nm h,()))where
 Pv:=fun _=>eB ⟨.str _,trivial⟩
 Pt:=fun _=>aJ (Nat.zero_le _) (dK t)
 call:=fun n s y _ _ hy hw=>Kj F nm hy hw (aJ (Nat.zero_le _) (dK t))
 next:=fun _ _ _ _=>trivial
theorem SX {g:Nat} {p q:aU} {tv y:aA} {e:fJ} (h:eu L 195 [.ptr 4 0,tv,.fn (.func g) [] [.ptr 0 0]] (p::q::nT e) y (p::q::nT e)) (lp:bE 0 p) (lq:bE 0 q) (lt:Low 0 tv) (ly:Low 0 y) (ap:p.alive=true) (aq:q.alive=true)
  {H:Heap} {a b:Nat} (hab:a≠b) (h3:3≤a) (h4:3≤b) (hE:K5 e H 0) (ha:H[a]?=some p) (hb:H[b]?=some q) {K KP:aA→Heap→Prop} (hk:K y H):aD L 195 [.ptr 2 0,tv,.fn (.func g) [] [.ptr a 0]] H (eG K KP):=by
 have hp:Part H [a,b,0,1,2] (p::q::nT e):=by
  refine⟨by simp;omega,rfl,fun k i o hk ho=>?_⟩
  match k,hk,ho with
  |0,hk,ho=>cases hk;cases ho;rw[dF lp];exact ha
  |1,hk,ho=>cases hk;cases ho;rw[dF lq];exact hb
  |2,hk,ho=>cases hk;cases ho;rw[dF (show bE 0 (.map (dh e.by_ 0) e.by_.length)from fH 0 _ _)];exact hE.h0
  |3,hk,ho=>cases hk;cases ho;rw[dF (show bE 0 (.map (gP e.empty 0) e.empty.length)from gK 0 _ _)];exact hE.h1
  |4,hk,ho=>cases hk;cases ho;exact hE.h2
  |k+5,hk,ho=>cases hk
 have hf:=aD.Sw (y':=y) (args':=[.ptr 2 0,tv,.fn (.func g) [] [.ptr a 0]]) h (fun o ho=>by
  simp only[nT,List.mem_cons,List.not_mem_nil,or_false]at ho
  rcases ho with rfl|rfl|rfl|rfl|rfl<;>first|exact ap|exact aq|rfl) [a,b,0,1,2] hp (by
  rw[List.map_cons,List.map_cons,jw lt];rfl) (jw ly)
 exact hf.to1 hk
theorem Xx {part:TA→Option TA} (hp:∀h t,part h=some t→t∈h.l) {hs:List TA} (hn:∀h∈hs,NT h) (hw:wtL hs≤2^26):okN (.mk 7 [] [] (hs.filterMap part)):=by
 have hm:∀t∈hs.filterMap part,NT t:=fun t ht=>by
  obtain⟨h,hh,he⟩:=List.mem_filterMap.1 ht;exact(hn h hh).parts t (hp h t he)
 have key:∀l:List TA,wtL (l.filterMap part)≤wtL l:=fun l=>by
  induction l with
  |nil=>exact Nat.le_refl _
  |cons h l ih=>
   rw[List.filterMap_cons]
   cases hx:part h with
   |none=>rw[wtL];simp only;omega
   |some t=>
    have h1:=gU (hp h t hx);have h2:=BO h;simp only[wtL];omega
 have hl:∀l:List TA,l.length≤wtL l:=fun l=>by
  induction l with
  |nil=>exact Nat.le_refl _
  |cons h l ih=>rw[wtL,List.length_cons];omega
 have h1:=key hs;have h2:=hl (hs.filterMap part);have h3:=hl (aN (hs.filterMap part));have h4:=Gv (hs.filterMap part);exact JB hm (by omega) (fun t ht=>by have:=gU ht;omega) (by omega)
theorem vQ (nm:Bytes) (h t:TA) (he:dW nm h=some t):t∈h.l:=by
 unfold dW at he;split at he
 ·split at he
  ·exact List.mem_of_getElem? he
  ·cases he
 ·cases he
theorem qP (F:zR T) {by_:List (Bytes×TA)} {e:fJ} {C:List TA} (W:lS by_ e C) {t:TA} (ht:GC' C t) (hw:wtL (hdE e t)≤2^26) (nm:Bytes):
  EK T.L 156 [t.av,.str nm] e (.tup [(gives (dW nm) (hdE e t)).1.av,.int .i64 (gives (dW nm) (hdE e t)).2]):=by
 have hn:∀h∈hdE e t,NT h∧wtT h≤2^30:=fun h hh=>W.Mx ht hh
 have hE:=F7 F.ME (SG F nm t) (W.J2 F.toyM ht) hn (Sd W ht) () trivial;rw[Ec (part:=dW nm) fun _ _=>rfl]at hE;have hd:=W.Bw ht
 have hJ:(nD (dW nm) [] (hdE e t)).2=0→okN (.mk 7 [] [] (nD (dW nm) [] (hdE e t)).1):=fun h0=>by
  rcases Classical.em (bK∈hdE e t)with h|h
  ·rw[DU W ht h]at h0;cases h0
  ·have k4:∀h∈hdE e t,h.kind≠4:=fun x hx h4=>h (by rw[←(hd.1 x hx).1.nU h4];exact hx)
   by_cases hp:∃h∈hdE e t,dW nm h=none
   ·rw[zD _ _ k4 hp]at h0;cases h0
   ·rw[wS _ _ k4 fun x hx=>by
     cases hq:dW nm x with
     |none=>exact absurd ⟨x,hx,hq⟩ hp
     |some _=>rfl]
    exact Xx (vQ nm) (fun h hh=>(hn h hh).1) hw
 have hJ:=fun h=>xq F.tovY _ (hJ h)
 unfold gives;generalize nD (dW nm) [] (hdE e t)=r at hE hJ;obtain⟨l,how⟩:=r;dsimp only at hE hJ⊢;have hdy:=Ku F.MC;have lt:=aT 0 t;have hEA:∀J,K5 e (jd e ++J) 0:=fun J=>⟨rfl,rfl,rfl⟩
 have hR:=fun{H:Heap} {a b:Nat} hab h3 h4 hE' ha hb {K KP:aA→Heap→Prop} hk=>SX (L:=T.L) (H:=H) (a:=a) (b:=b) (K:=K) (KP:=KP) hE (eB ⟨.str _,trivial⟩) (dK t) lt (.tup _ (fT.at ⟨.lst _ _ trivial (aV _ _),.int _ _,trivial⟩)) rfl (by obtain⟨a,b,c,d⟩:=t;rfl) hab h3 h4 hE' ha hb hk
 refine EK.of 0 (.tup _ (fT.at ⟨aT _ _,.int _ _,trivial⟩)) (aI F.WL (by simp[Um]) ?_);clear hE;obtain⟨tk,tn,ts,tl⟩:=t;conv=>whnf
 refine hR (a:=4) (b:=3) (by decide) (by decide) (by decide) (hEA _) rfl rfl ?_
 by_cases h0:how=0
 ·subst h0
  rw[if_pos rfl];have hJ:=hJ rfl;generalize dR l=u at hJ;obtain⟨uk,un,us,ul⟩:=u;conv=>whnf
  refine hJ.to ?_;conv=>whnf
  exact⟨_,_,rfl,Weak.refl _,rfl⟩
 ·rw[if_neg h0]
  conv=>whnf
  rw[show((how:Int) !=0)=true from by simpa using h0];conv=>whnf
  refine hdy.to ?_;conv=>whnf
  exact⟨_,_,rfl,Weak.refl _,rfl⟩
end Go.Ag
/- cupelref05.TypeOf, cupellaw07.Parsed, cupellaw09.Made. -/
namespace Go.Ag
open Go
variable {T : Tab} {L : Lnk}
structure UF (T:Tab):Prop extends UH T where
 Wj:T.has 233 TL
theorem IJ (F:UF T) (src:Bytes) (hs:src.length≤2^31):Pure T.L 233 [.str src] (.tup [(jm src).1.av,.bool (jm src).2]):=by
 refine Pure.LD 1 (dI (.str _)) (.tup _ (fT.at ⟨aT _ _,.bool _,trivial⟩)) (aI F.Wj (by simp[TL]) ?_);have hR:=jm.eq_1 src;unfold ES uM at hR;generalize jm src=R at hR⊢;conv=>whnf
 refine F.toUH.of src (by omega) _ rfl ?_;conv=>whnf
 have hok:=(mU src (by omega)).1;have hq:=(CF F.touL (lT src)).type 1 (bC src) hok (by omega) (Nat.le_refl _);have hle:=(bN (lT src)).1 1 (bC src) hok;obtain⟨q,hqe⟩:∃q,bJ (lT src) 1 (bC src)=q:=⟨_,rfl⟩;rw[hqe]at hq hle hR;obtain⟨⟨a1,a2,a3,a4⟩,s⟩:=q;dsimp only at hq hle hR;have hs':=hok.of hle;refine hq.to2 (dI (.int _ _)) (aT _ _) _ _ rfl ?_;conv=>whnf
 have e0:(s.diags.map bO.av).length=s.diags.length:=by simp
 cases hb:s.bad
 ·conv=>whnf
  refine jR hs' ?_;conv=>whnf
  refine⟨Nat.zero_le _,?_⟩;conv=>whnf
  cases hk:(s.tok.kind !=6)
  ·have hk6:(s.tok.kind==6)=true:=by simpa[bne]using hk
   conv=>whnf
   rw[e0];cases hd:decide (((s.diags.length:Nat):Int)>0)
   ·have h0:(s.diags.length==0)=true:=by simp at hd⊢;exact hd
    rw[hb,hk6,h0]at hR;have hR:R=(TA.mk a1 a2 a3 a4,true):=hR;subst hR;conv=>whnf
    exact aH (Weak.refl _)
   ·have h0:(s.diags.length==0)=false:=by
     have:=of_decide_eq_true hd;simp;intro h;rw[h]at this;exact absurd this (by decide)
    rw[hb,hk6,h0,if_neg (by simp)]at hR;subst hR;conv=>whnf
    exact aH (Weak.tup ⟨iE,Weak.refl _,trivial⟩)
  ·have hk6:(s.tok.kind==6)=false:=by simpa[bne]using hk
   rw[hb,hk6,if_neg (by simp)]at hR;subst hR;conv=>whnf
   exact aH (Weak.tup ⟨iE,Weak.refl _,trivial⟩)
 ·rw[hb,if_neg (by simp)]at hR
  subst hR;conv=>whnf
  exact aH (Weak.tup ⟨iE,Weak.refl _,trivial⟩)
def rD (s:Bytes):Bool:=decide (s.length≤600)&&(jm s).2
def iK (l:List Bytes):List TA:=if l.all rD then l.map fun s=>(jm s).1 else[]
structure UG (T:Tab):Prop extends UF T,zP T where
 Wz:T.has 194 Uc
theorem BM (F:UG T) (l:List Bytes) (hl:l.length≤2^20):Pure T.L 194 [.lst (aQ l) .none] (.tup [.lst (TA.avs (iK l)) .none,.lst (TA.avs (iK l)) .none,.bool (l.all rD&&decide (l.length≤12))]):=by
 refine Pure.LD 2 (dI (dX _ _ _ trivial)) (.tup _ (fT.at ⟨.lst _ _ trivial (aV _ _),.lst _ _ trivial (aV _ _),.bool _,trivial⟩)) (aI F.Wz (by simp[Uc]) ?_);have hLen:(aQ l).length=l.length:=by simp[aQ]
 obtain⟨res,hres⟩:∃res,aA.tup [.lst (TA.avs (iK l)) .none,.lst (TA.avs (iK l)) .none,.bool (l.all rD&&decide (l.length≤12))]=res:=⟨_,rfl⟩;rw[hres]
 have hno:∀s∈l,rD s=false→Weak T.L (.tup [.lst [] .nil,.lst [] .nil,.bool false]) res:=fun s hs h=>by
  have:l.all rD=false:=by
   rw[List.all_eq_false];exact⟨s,hs,by rw[h];decide⟩
  unfold iK at hres;rw[this]at hres;subst hres;exact Weak.tup ⟨Weak.tok _ _,Weak.tok _ _,Weak.refl _,trivial⟩
 conv=>whnf
 intro I hI hG
 have key:∀(d j:Nat) (e:Env),l.length-j=d→j≤l.length→(∀s∈l.take j,rD s=true)→
   I (gT e [(0,.lst (aQ l) .none),(5,.lst (TA.avs ((l.take j).map fun s=>(jm s).1)) (bG ((l.take j).map fun s=>(jm s).1).length 0)),(6,.lst (TA.avs ((l.take j).map fun s=>(jm s).1)) (bG ((l.take j).map fun s=>(jm s).1).length 1)),(7,.int .i64 j)])
    [bA ((l.take j).map fun s=>(jm s).1).length 175,bA ((l.take j).map fun s=>(jm s).1).length 109]:=by
  intro d
  induction d with
  |zero=>
   intro j e hd hj ha;have hjl:j=l.length:=by omega
   subst hjl;rw[List.take_length]at ha⊢;have hall:l.all rD=true:=List.all_eq_true.2 ha;unfold iK at hres;rw[hall]at hres;have hres:aA.tup [.lst (TA.avs (l.map fun s=>(jm s).1)) .none,.lst (TA.avs (l.map fun s=>(jm s).1)) .none,.bool (decide (l.length≤12))]=res:=hres;generalize l.map (fun s=>(jm s).1)=ts at hres⊢;apply hI;conv=>whnf
   rw[hLen,show decide (((l.length:Nat):Int)<((l.length:Nat):Int))=false from decide_eq_false (by omega)];conv=>whnf
   rw[hLen,←hres];refine⟨_,rfl,Weak.tup ⟨Weak.tok _ _,Weak.tok _ _,?_,trivial⟩⟩;rw[show decide (((l.length:Nat):Int)≤12)=decide (l.length≤12)from decide_eq_decide.2 (by omega)];exact Weak.refl _
  |succ d ihd=>
   intro j e hd hj ha;have hjl:j<l.length:=by omega
   have hget:(aQ l)[((j:Nat):Int).toNat]?=some (.str l[j]):=by
    rw[Int.toNat_natCast];simp[aQ,List.getElem?_map,List.getElem?_eq_getElem hjl]
   have hnext:=fun e h=>ihd (j+1) e (by omega) hjl h
   have hm:=List.getElem_mem hjl;rw[List.take_succ_eq_append_getElem hjl,List.map_append,List.map_singleton]at hnext;have hn2:=fun(h:rD l[j]=true) e=>hnext e fun s hs=>(List.mem_append.1 hs).elim (ha s) fun h'=>by rw[List.mem_singleton]at h';rw[h'];exact h
   clear hnext;have hno:=hno _ hm;have hacc:((l.take j).map fun s=>(jm s).1).length=j:=by rw[List.length_map,List.length_take];omega
   generalize (l.take j).map (fun s=>(jm s).1)=acc at hn2 hacc⊢;generalize l[j]=s at hget hn2 hno;have h1:s.length≤600→_:=fun h=>Gp F.tozP s (by omega)
   have h2:s.length≤600→_:=fun h=>IJ F.toUF s (by omega)
   unfold rD at hn2 hno;apply hI;conv=>whnf
   rw[hLen,dM hjl];conv=>whnf
   refine step_elem (Int.natCast_nonneg _) hget rfl ?_;conv=>whnf
   by_cases VI:s.length≤600
   case neg=>
    rw[show decide (((s.length:Nat):Int)>600)=true from decide_eq_true (by omega)];conv=>whnf
    exact⟨_,rfl,hno (by rw[decide_eq_false VI];rfl)⟩
   rw[show decide (((s.length:Nat):Int)>600)=false from decide_eq_false (by omega)];have h1:=h1 VI;have h2:=h2 VI;rw[decide_eq_true VI]at hn2 hno;generalize jm s=r at h1 h2 hn2 hno;obtain⟨x,b⟩:=r;dsimp only at h1 h2 hn2 hno;rw[Bool.true_and]at hn2 hno;have e1:TA.avs (acc ++[x])=TA.avs acc ++[x.av]:=iF acc [x];have e2:(acc ++[x]).length=(TA.avs acc ++[x.av]).length:=by rw[←e1,bL]
   have hsz:=fF acc;have hs1:=fF [x];rw[e1,e2]at hn2;have hla:(TA.avs acc).length=acc.length:=bL acc;rw[←hla]at hacc⊢;have hlo:=aV 2 (acc ++[x]);rw[e1]at hlo;obtain⟨xk,xn,xs,xl⟩:=x;conv=>whnf
   refine step_elem (Int.natCast_nonneg _) hget rfl ?_;conv=>whnf
   refine h1.to ?_;conv=>whnf
   refine step_elem (Int.natCast_nonneg _) hget rfl ?_;conv=>whnf
   refine h2.to ?_;cases b
   ·conv=>whnf
    exact⟨_,rfl,hno rfl⟩
   conv=>whnf
   refine dQ (xs:=TA.avs acc) (id:=0) (k:=4) (bytes:=72) (t:=175) hsz hs1 (by rw[bL];simp;omega) (by rw[bL];simp;omega) (by simp[TA.avs]) rfl ?_;conv=>whnf
   refine dQ (xs:=TA.avs acc) (id:=1) (k:=4) (bytes:=72) (t:=109) hsz hs1 (by rw[bL];simp;omega) (by rw[bL];simp;omega) (by simp[TA.avs]) rfl ?_;conv=>whnf
   refine hG.keep [(0,.lst (aQ l) .none),(5,.lst (TA.avs acc ++[(TA.mk xk xn xs xl).av]) (bG (TA.avs acc ++[(TA.mk xk xn xs xl).av]).length 0)),(6,.lst (TA.avs acc ++[(TA.mk xk xn xs xl).av]) (bG (TA.avs acc ++[(TA.mk xk xn xs xl).av]).length 1)),(7,.int .i64 (j+1:Nat))]
    [bA (TA.avs acc ++[(TA.mk xk xn xs xl).av]).length 175,bA (TA.avs acc ++[(TA.mk xk xn xs xl).av]).length 109] (Nat.le_refl 2) rfl ⟨rfl,rfl,rfl,add1 (by omega),trivial⟩
    ⟨dX _ _ _ trivial,.lst _ _ (dJ (show 0<2 by decide)) hlo,.lst _ _ (dJ (show 1<2 by decide)) hlo,.int _ _,trivial⟩ ⟨bq _ _ _,bq _ _ _,trivial⟩ (hn2 rfl _)
 exact inv_of [(0,.lst (aQ l) .none),(5,.lst (TA.avs []) (bG 0 0)),(6,.lst (TA.avs []) (bG 0 1)),(7,.int .i64 (0:Nat))] ⟨rfl,rfl,rfl,rfl,trivial⟩ (key l.length 0 _ rfl (Nat.zero_le _) (fun s hs=>by cases hs))
end Go.Ag
/- cupellaw09.Made. -/
namespace Go.Ag
open Go
variable {T : Tab} {L : Lnk}
structure Ev (T:Tab):Prop extends zT T,UG T where
 Sk:T.has 155 OB
theorem yX {l:List Bytes} {t:TA} (h:t∈iK l):GT t∧wtT t≤2^19:=by
 unfold iK at h;split at h
 ·rename_i ha
  obtain⟨s,hs,rfl⟩:=List.mem_map.1 h;have h1:=List.all_eq_true.1 ha s hs;unfold rD at h1;rw[Bool.and_eq_true,decide_eq_true_eq]at h1;have h2:=Lh s (by omega) h1.2;have:(s.length+82)*(s.length+1)≤682*601:=Nat.mul_le_mul (by omega) (by omega);exact⟨h2.1,by omega⟩
 ·cases h
def sumOf (l:List TA):Nat:=(l.map szT).sum
theorem sz_le (t:TA):szT t≤wtT t:=by
 have:=Cn _ t (Nat.le_refl _);show(allT t).length≤_;omega
theorem UM (F : Ev T) (src : Bytes) (l : List Bytes) (hs : src.length ≤ 600) (hl : l.length ≤ 2 ^ 20) (H : Heap) :
  aD T.L 155 [.str src, .lst (aQ l) .none] H fun r H' => ∃ e o0 o1, mJ (jA (gV src)) e ∧ H' = H ++ [o0, o1, .map (dh e.by_ 0) e.by_.length, .map (gP e.empty 0) e.empty.length, .cells [.map (H.length + 2), .map (H.length + 3)] 234] ∧
   ((l.all rD = true ∧ (gV src).length ≤ 8 ∧ jr (gV src) ≤ 60 ∧ r = .ret (.tup [.ptr (H.length + 4) 0, .lst (gG (gV src)) .none, .lst (TA.avs (iK l)) .none, .lst (TA.avs (iK l)) .none, .bool (decide (sumOf (iK l) ≤ 40))])) ∨
    r = .ret (.tup [.fD, .lst [] .nil, .lst [] .nil, .lst [] .nil, .bool false])) := by
 have hM := Xm F.tozT src hs
 have hP := BM F.toUG l hl
 have hD := tQ src hs
 have hDl := Ba src hs
 have hg := fun t (h : t ∈ iK l) => yX h
 have h12 : l.all rD = true → (iK l).length = l.length := fun h => by unfold iK; rw [if_pos h, List.length_map]
 have hSm := M5 F.tozT (gV src) hDl (fun p hp => Nat.le_trans (hD p hp).2.2 (by decide)) .none trivial
 generalize gV src = D at hM hD hDl hSm ⊢
 generalize iK l = ts at hP hg h12 ⊢
 refine aI F.Sk (by simp [OB]) ?_
 have hLen : (TA.avs ts).length = ts.length := bL ts
 conv => whnf
 refine (hM _).mono fun r H' ⟨e, o0, o1, hok, e1, e2⟩ => ?_
 subst e1
 conv => whnf
 refine hP.to ?_
 conv => whnf
 by_cases h8 : D.length ≤ 8
 case neg =>
  rw [decide_eq_false h8]
  conv => whnf
  exact ⟨e, o0, o1, hok, e2, .inr rfl⟩
 rw [decide_eq_true h8]
 cases ha : (l.all rD && decide (l.length ≤ 12))
 ·conv => whnf
  exact ⟨e, o0, o1, hok, e2, .inr rfl⟩
 rw [Bool.and_eq_true, decide_eq_true_eq] at ha
 conv => whnf
 refine hSm.to ?_
 conv => whnf
 by_cases hz : jr D ≤ 60
 case neg =>
  rw [decide_eq_false hz]
  conv => whnf
  exact ⟨e, o0, o1, hok, e2, .inr rfl⟩
 rw [decide_eq_true hz]
 conv => whnf
 intro I hI hG
 have hsum : ∀ j, j ≤ ts.length → sumOf (ts.take j) ≤ j * 2 ^ 19 := fun j => by
  induction j with
  | zero => intro _; simp [sumOf]
  | succ j ih =>
   intro hj
   have h1 := ih (by omega)
   have h2 := sz_le ts[j]
   have h3 := (hg _ (List.getElem_mem (show j < ts.length by omega))).2
   unfold sumOf at h1 ⊢
   rw [List.take_succ_eq_append_getElem (by omega), List.map_append, List.sum_append_nat, List.map_singleton, List.sum_singleton]
   omega
 have hts : ts.length ≤ 12 := by rw [h12 ha.1]; exact ha.2
 have key : ∀ (d j : Nat) (e' : Env), ts.length - j = d → j ≤ ts.length →
   I (gT e' [(9, .ptr (H.length + 4) 0), (10, .lst (gG D) .none), (12, .lst (TA.avs ts) .none), (13, .lst (TA.avs ts) .none), (15, .int .i64 (sumOf (ts.take j) : Nat)), (16, .int .i64 j)]) H' := by
  intro d
  induction d with
  | zero =>
   intro j e' hd hj
   have hjl : j = ts.length := by omega
   subst hjl
   rw [List.take_length]
   apply hI
   conv => whnf
   rw [hLen, show decide (((ts.length : Nat) : Int) < ((ts.length : Nat) : Int)) = false from decide_eq_false (by omega)]
   conv => whnf
   rw [show decide (((sumOf ts : Nat) : Int) ≤ 40) = decide (sumOf ts ≤ 40) from decide_eq_decide.2 (by omega)]
   exact ⟨e, o0, o1, hok, e2, .inl ⟨ha.1, h8, hz, rfl⟩⟩
  | succ d ihd =>
   intro j e' hd hj
   have hjl : j < ts.length := by omega
   have hget := pG hjl
   have hnext := fun e => ihd (j + 1) e (by omega) hjl
   have hs1 := hsum (j + 1) hjl
   have e3 : sumOf (ts.take (j + 1)) = sumOf (ts.take j) + szT ts[j] := by
    unfold sumOf
    rw [List.take_succ_eq_append_getElem hjl, List.map_append, List.sum_append_nat, List.map_singleton, List.sum_singleton]
   rw [e3] at hnext hs1
   have hwj := (hg _ (List.getElem_mem hjl)).2
   have hc := u7 F.Ka _ ts[j] (Nat.lt_succ_self _) (by omega)
   generalize ts[j] = v at hget hc hnext hs1 hwj
   generalize sumOf (ts.take j) = m at hnext hs1 ⊢
   apply hI
   obtain ⟨vk, vn, vs, vl⟩ := v
   conv => whnf
   rw [hLen, dM hjl]
   conv => whnf
   refine step_elem (Int.natCast_nonneg _) hget rfl ?_
   conv => whnf
   refine hc.to ?_
   conv => whnf
   refine inv_of [(9, .ptr (H.length + 4) 0), (10, .lst (gG D) .none), (12, .lst (TA.avs ts) .none), (13, .lst (TA.avs ts) .none), (15, .int .i64 ((m + szT (.mk vk vn vs vl) : Nat) : Int)), (16, .int .i64 (j + 1 : Nat))] ⟨rfl, rfl, rfl, rfl, ?_, add1 (by omega), trivial⟩ (hnext _)
   show aA.int .i64 (IntKind.i64.wrap (((m : Nat) : Int) + ((szT (.mk vk vn vs vl) : Nat) : Int))) = _
   rw [IntWalk.i64_in _ (by omega)]
   congr 1
 exact inv_of [(9, .ptr (H.length + 4) 0), (10, .lst (gG D) .none), (12, .lst (TA.avs ts) .none), (13, .lst (TA.avs ts) .none), (15, .int .i64 (0 : Nat)), (16, .int .i64 (0 : Nat))] ⟨rfl, rfl, rfl, rfl, rfl, rfl, trivial⟩ (key ts.length 0 _ rfl (Nat.zero_le _))
theorem M8 (F:Ev T) (src:Bytes) (l:List Bytes) (hs:600<src.length) (hl:l.length≤2^20):Pure T.L 155 [.str src,.lst (aQ l) .none] (.tup [.fD,.lst [] .nil,.lst [] .nil,.lst [] .nil,.bool false]):=by
 have hP:=BM F.toUG l hl;refine Pure.run (fT.at ⟨.str _,dX _ _ _ trivial,trivial⟩) (.tup _ (fT.at ⟨.fD,.lst _ _ trivial gJ,.lst _ _ trivial gJ,.lst _ _ trivial gJ,.bool _,trivial⟩)) (aI F.Sk (by simp[OB]) ?_);conv=>whnf
 refine(QJ F.tozT src hs).to ?_;conv=>whnf
 refine hP.to ?_;conv=>whnf
 exact aH (Weak.refl _)
end Go.Ag
/- Package cupellaw10: alive. -/
namespace Go.Ag
open Go
variable {T : Tab} {L : Lnk}
def tR1 :TA:=.mk 5 [] [[97]] [.mk 1 [] [] []]
def tR2 :TA:=.mk 5 [] [[97],[98]] [.mk 2 [] [] [],.mk 1 [] [] []]
theorem XH :jm [123,97,58,32,105,110,116,125,32,124,32,123,97,58,32,98,111,111,108,44,32,98,58,32,105,110,116,125]=(uT tR1 tR2,true):=by kernel_rfl
theorem Nz :NT tR1:=.rcd _ _ (by decide) rfl (fun n hn=>by
 rw[List.mem_singleton]at hn;subst hn;exact g97) fun t ht=>by rw[List.mem_singleton]at ht;subst ht;exact .int
theorem Ny :NT tR2:=.rcd _ _ (by decide) rfl (fun n hn=>by
 simp only[List.mem_cons,List.not_mem_nil,or_false]at hn;rcases hn with rfl|rfl
 ·exact g97
 ·exact g98) fun t ht=>by
 simp only[List.mem_cons,List.not_mem_nil,or_false]at ht;rcases ht with rfl|rfl
 ·exact .bool
 ·exact .int
theorem KU {e:fJ} {C:List TA} (W:lS [] e C) (hx:GC' C (uT tR1 tR2)):gives (dW [97]) (hdE e (uT tR1 tR2))=(dR [.mk 2 [] [] [],.mk 1 [] [] []],0)∧gives (dW [98]) (hdE e (uT tR1 tR2))=(bK,2):=by
 have hj:=I5 (by_:=[]) (MF Nz.gt Ny.gt) (by simp);have h2:∀{P:TA→Prop},(∃t∈[tR1,tR2],P t)↔P tR1∨P tR2:=fun{P}=>by simp
 have s1:∀x,Spr [] tR1 x↔x=tR1:=fun x=>I4 (by decide) (by decide)
 have s2:∀x,Spr [] tR2 x↔x=tR2:=fun x=>I4 (by decide) (by decide)
 rw[h2,jy Nz,jy Ny,s1,s2]at hj;have hn:¬(bK=tR1∨bK=tR2):=by rintro(h|h)<;>exact absurd (congrArg TA.kind h) (by decide)
 have hm:∀x,x∈hdE e (uT tR1 tR2)↔x=tR1∨x=tR2:=fun x=>W.Yg hx (fun x=>by
  have:=hj.2 hn x;rw[h2,jy Nz,jy Ny,s1,s2]at this
  exact this) (by decide) (by decide)
 have h4:∀h∈hdE e (uT tR1 tR2),h.kind≠4:=fun h hh=>by rcases(hm h).1 hh with rfl|rfl<;>decide
 have f1:dW [97] tR1=some (.mk 1 [] [] []):=by kernel_rfl
 have f2:dW [97] tR2=some (.mk 2 [] [] []):=by kernel_rfl
 have f3:dW [98] tR1=none:=by kernel_rfl
 constructor
 ·rcases iR (part:=dW [97]) h4 with⟨h,_⟩|⟨_,t,ht,h⟩
  ·rw[h]
   congr 1
   have hmem:∀x,x∈(hdE e (uT tR1 tR2)).filterMap (dW [97])↔x∈[TA.mk 2 [] [] [],.mk 1 [] [] []]:=fun x=>by
    rw[List.mem_filterMap];simp only[List.mem_cons,List.not_mem_nil,or_false];constructor
    ·rintro⟨h,hh,he⟩
     rcases(hm h).1 hh with rfl|rfl
     ·rw[f1]at he;cases he;exact .inr rfl
     ·rw[f2]at he;cases he;exact .inl rfl
    ·rintro(rfl|rfl)
     ·exact⟨tR2,(hm _).2 (.inr rfl),f2⟩
     ·exact⟨tR1,(hm _).2 (.inl rfl),f1⟩
   have hk:∀t∈[TA.mk 2 [] [] [],.mk 1 [] [] []],NT t∧t.kind≠7:=fun t ht=>by
    simp only[List.mem_cons,List.not_mem_nil,or_false]at ht;rcases ht with rfl|rfl
    ·exact⟨.bool,by decide⟩
    ·exact⟨.int,by decide⟩
   refine DI (fun t ht=>hk t ((hmem t).1 ht)) hk (fun h0=>?_) (by simp) (hmem _) fun _=>hmem
   have:=(hmem (.mk 2 [] [] [])).2 (by simp);rw[h0]at this;cases this
  ·rcases(hm t).1 ht with rfl|rfl
   ·rw[f1]at h;cases h
   ·rw[f2]at h;cases h
 ·rcases iR (part:=dW [98]) h4 with⟨_,h⟩|⟨h,_⟩
  ·have:=h tR1 ((hm _).2 (.inl rfl))
   rw[f3]at this;cases this
  ·exact h
theorem NS :NT (.mk 7 [] [] [.mk 2 [] [] [],.mk 1 [] [] []]):=.uni _ (by decide) (fun t ht=>by
  simp only[List.mem_cons,List.not_mem_nil,or_false]at ht;rcases ht with rfl|rfl
  ·exact .bool
  ·exact .int) (fun t ht=>by
  simp only[List.mem_cons,List.not_mem_nil,or_false]at ht
  rcases ht with rfl|rfl<;>exact⟨by decide,by decide⟩) (by
  rw[List.pairwise_cons];refine⟨fun t ht=>?_,List.pairwise_singleton _ _⟩;rw[List.mem_singleton]at ht;subst ht
  rw[ug,pK];decide)
theorem QF :prT (dR [.mk 2 [] [] [],.mk 1 [] [] []]) 0=[98,111,111,108,32,124,32,105,110,116]:=by
 show prT (aW _) 0=_;rw[jy NS]
 kernel_rfl
theorem Iq (F : zR T) (G : zP T) (Qb : T.has 154 KQ) : Pure T.L 154 [] (.bool true) := by
  have hty := Gp G [123, 97, 58, 32, 105, 110, 116, 125, 32, 124, 32, 123, 97, 58, 32, 98, 111, 111, 108, 44, 32, 98, 58, 32, 105, 110, 116, 125] (by decide)
  rw [XH] at hty
  have hw0 : wtT (uT tR1 tR2) ≤ 2 ^ 22 := by decide
  have hs0 : szT (uT tR1 tR2) ≤ 100 := by decide
  have hr : ∀ e, mJ (jA []) e → EK T.L 156 [(uT tR1 tR2).av, .str [97]] e (.tup [(dR [.mk 2 [] [] [], .mk 1 [] [] []]).av, .int .i64 0]) ∧ EK T.L 156 [(uT tR1 tR2).av, .str [98]] e (.tup [bK.av, .int .i64 2]) := fun e hok => by
    obtain ⟨C, W, hC, hB⟩ := XA (D := []) (ts := [uT tR1 tR2]) (fun p hp => by cases hp) (by decide) (by decide) (fun t ht => by
      rw [List.mem_singleton] at ht; subst ht
      exact ⟨Sn Nz.gt Ny.gt, hw0, hs0⟩) (by decide) hok
    have hx := hC _ (List.mem_singleton.2 rfl)
    have hb := hB _ (List.mem_singleton.2 rfl)
    have g := KU W hx
    have r1 := qP F W hx hb [97]
    have r2 := qP F W hx hb [98]
    rw [g.1] at r1
    rw [g.2] at r2
    exact ⟨r1, r2⟩
  have hN := fun H => UL F.tozV [] (by decide) (fun p hp => by cases hp) (fun p hp => by cases hp) .nil H
  have hT := Xn.GA F.tovY (u := dR [.mk 2 [] [] [], .mk 1 [] [] []]) (by show NT (aW _); rw [jy NS]; exact NS) (by show wtT (aW _) ≤ _; rw [jy NS]; decide)
  rw [QF] at hT
  generalize dR [.mk 2 [] [] [], .mk 1 [] [] []] = J at hr hT
  generalize uT tR1 tR2 = U at hty hr
  have lU := aT 0 U
  have lJ := aT 0 J
  refine Pure.run gJ (.bool _) (w9 Qb (by simp [KQ]) ?_)
  show dV T.L KQ.body _ [] _
  refine p8 (P := fun e H => (∃ a b c, H = [cK U, a, b, c, cK J] ∧ eP e [(1, .ptr 0 0), (2, .bool true), (3, .ptr 4 0), (4, .int .i64 0)]) ∨ (∃ a b c, H = [cK U, cK J, a, b, c] ∧ eP e [(1, .ptr 0 0), (2, .bool true), (3, .ptr 1 0), (4, .int .i64 0)])) 3 _ _ _ (eY _ _ _ _ ?_) fun e1 H1 h1 => ?_
  · obtain ⟨uk, un, us, ul⟩ := U
    obtain ⟨jk, jn, js, jl⟩ := J
    conv => whnf
    refine hty.to ?_
    have hl1 : ∀ x ∈ [(TA.mk uk un us ul).av, .str [97]], Low 0 x := fT.at ⟨lU, .str _, trivial⟩
    have hl2 : Low 0 (.tup [(TA.mk jk jn js jl).av, .int .i64 0]) := .tup _ (fT.at ⟨lJ, .int _ _, trivial⟩)
    conv => whnf
    refine ⟨?_, ?_⟩
    iterate 14 all_goals (
      try first
      | exact .inl ⟨_, _, _, rfl, rfl, rfl, rfl, rfl, trivial⟩
      | exact .inr ⟨_, _, _, rfl, rfl, rfl, rfl, rfl, trivial⟩
      | (refine (hN _).mono fun r H' ⟨e, hok, q1, q2⟩ => ?_
         subst q1 q2)
      | refine (hr e hok).1.any hl1 hl2 ⟨rfl, rfl, rfl⟩ ?_
      | refine ⟨?_, ?_⟩
      try (conv => whnf))
  rcases h1 with ⟨a, b, c, rfl, he⟩ | ⟨a, b, c, rfl, he⟩
  all_goals
    refine eY _ _ _ _ ?_
    rw [← nW he]
    clear he
    obtain ⟨uk, un, us, ul⟩ := U
    obtain ⟨jk, jn, js, jl⟩ := J
    have hl1 : ∀ x ∈ [(TA.mk uk un us ul).av, .str [98]], Low 0 x := fT.at ⟨lU, .str _, trivial⟩
    have hl2 : Low 0 (.tup [bK.av, .int .i64 2]) := .tup _ (fT.at ⟨aT _ _, .int _ _, trivial⟩)
    conv => whnf
    refine ⟨?_, ?_⟩
    iterate 18 all_goals (
      try first
      | exact aH (Weak.refl _)
      | (refine (hN _).mono fun r H' ⟨e, hok, q1, q2⟩ => ?_
         subst q1 q2)
      | refine (hr e hok).2.any hl1 hl2 ⟨rfl, rfl, rfl⟩ ?_
      | refine hT.to ?_
      | refine ⟨?_, ?_⟩
      try (conv => whnf))
end Go.Ag
/- Library functions whose contracts are told of the machine: made abstract contracts. -/
namespace Go.Ag
open Go
open Go.RowKit (Below)
variable {L : Lnk}
theorem below_drewN (w:World) (n:Nat):Below w.heap.size w (w.drewN n):=⟨rfl,rfl,rfl,Nat.le_refl _,fun _ _=>rfl⟩
theorem vR {f:Nat} {args:List aA} {H:Heap} {x:aA}
  (hc:∀g w vs,St L g w H→aY L g vs args→∃v,Rep L g v x∧Calls L.P (L.num f) vs.toArray w fun e w'=>e=.returned v∧Below w.heap.size w w'):
  aD L f args H fun r H'=>r=.ret x∧H'=H:=fun g w vs hs hr=>by
 obtain⟨v,h1,h2⟩:=hc g w vs hs hr;exact h2.mono fun e w' ⟨h3,h4⟩=>⟨.ret x,H,g,⟨rfl,rfl⟩,aB.le.refl g,hs.wider h4,v,h3,h1⟩
theorem Qj {f:Nat} {args:List aA} {H:Heap} {x:aA}
  (hc:∀g w vs,St L g w H→aY L g vs args→Calls L.P (L.num f) vs.toArray w fun e w'=>(∃v,e=.returned v∧Rep L g v x)∧Below w.heap.size w w'):
  aD L f args H fun r H'=>r=.ret x∧H'=H:=fun g w vs hs hr=>by
 exact(hc g w vs hs hr).mono fun e w' ⟨⟨v,h3,h1⟩,h4⟩=>⟨.ret x,H,g,⟨rfl,rfl⟩,aB.le.refl g,hs.wider h4,v,h3,h1⟩
theorem Jk {g:aB} {vs:List Value} {a:aA} (h:aY L g vs [a]):∃v,vs=[v]∧Rep L g v a:=by
 cases h with|cons v _ _ _ h hs=>cases hs;exact⟨v,rfl,h⟩
theorem Jj {g:aB} {vs:List Value} {a b:aA} (h:aY L g vs [a,b]):∃v u,vs=[v,u]∧Rep L g v a∧Rep L g u b:=by
 cases h with|cons v _ _ _ h hs=>obtain⟨u,rfl,h2⟩:=Jk hs;exact⟨v,u,rfl,h,h2⟩
end Go.Ag
/- The library's contracts of the laws: from the machine's to abstract ones. -/
namespace Go.Ag
open Go
open Go.RowKit (Below)
variable {L : Lnk}
theorem Xv (c:UInt8):∀(a b:Bytes),c∉a→Lib.index (a ++c::b) [c]=a.length
 |[],b,_=>by simp[Lib.index]
 |x::a,b,h=>by
  simp only[List.mem_cons,not_or]at h;have ih:=Xv c a b h.2;simp only[List.cons_append,Lib.index];rw[if_neg (by simp[h.1]),ih,if_neg (by simp<;>omega)];simp
theorem Xu (c:UInt8):∀(a:Bytes),c∉a→Lib.index a [c]= -1
 |[],_=>rfl
 |x::a,h=>by
  simp only[List.mem_cons,not_or]at h;simp only[Lib.index];rw[if_neg (by simp[h.1]),Xu c a h.2];rfl
theorem Ef (c:UInt8):∀s:Bytes,(∃a b,s=a ++c::b∧c∉a∧Eh c s=(a,b,true))∨(c∉s∧Eh c s=(s,[],false))
 |[]=>.inr ⟨by simp,rfl⟩
 |x::s=>by
  by_cases h:x=c
  ·subst h
   exact .inl ⟨[],s,rfl,by simp,by simp[Eh]⟩
  ·rcases Ef c s with⟨a,b,rfl,h1,h2⟩|⟨h1,h2⟩
   ·refine .inl ⟨x::a,b,rfl,by simp[Ne.symm h,h1],?_⟩
    simp only[Eh,Prod.mk.injEq]at h2⊢;obtain⟨e1,e2,e3⟩:=h2;refine⟨?_,?_,by simp⟩
    ·rw[List.takeWhile_cons,if_pos (by simpa using h),e1]
    ·rw[List.dropWhile_cons,if_pos (by simpa using h),e2]
   ·refine .inr ⟨by simp[Ne.symm h,h1],?_⟩
    simp only[Eh,Prod.mk.injEq]at h2⊢;obtain⟨e1,e2,e3⟩:=h2;refine⟨?_,?_,?_⟩
    ·rw[List.takeWhile_cons,if_pos (by simpa using h),e1]
    ·rw[List.dropWhile_cons,if_pos (by simpa using h),e2]
    ·rw[List.any_cons,e3];simpa using h
theorem Xd (c:UInt8) (s:Bytes):Lib.cut s [c]=Eh c s:=by
 unfold Lib.cut;rcases Ef c s with⟨a,b,rfl,h,e⟩|⟨h,e⟩
 ·rw[Xv c a b h,e,if_pos (by omega)]
  simp
 ·rw[Xu c s h,e]
  rfl
theorem DC (sep:Bytes):∀ws:List Bytes,Lib.join ws sep=iV sep ws
 |[]=>rfl
 |[w]=>Lib.join_one w sep
 |w::u::r=>by
  have ih:=DC sep (u::r);rw[Lib.join_cons]at ih⊢;simp only[iV];rw[←ih];simp[Lib.joinTail]
theorem CG (s:Bytes):(⟨s.toArray⟩:ByteArray).data.toList=s:=by simp
theorem sizeB (s:Bytes):(⟨s.toArray⟩:ByteArray).size=s.length:=by show s.toArray.size=_;simp
theorem E9 {g:aB} {vs:List Value}:∀{l:List Bytes},aY L g vs (aQ l)→vs=l.map fun s=>.string ⟨s.toArray⟩:=fun{l} h=>by
 induction l generalizing vs with
 |nil=>cases h;rfl
 |cons s l ih=>
  simp only[aQ,List.map_cons]at h
  cases h with
  |cons v _ vs _ h hs=>rw[iU h,ih hs];rfl
theorem x9 {g:aB}:∀l:List Bytes,aY L g (l.map fun s=>Value.string ⟨s.toArray⟩) (aQ l)
 |[]=>.nil
 |s::l=>.cons _ _ _ _ (.str s) (x9 l)
theorem IX {g:aB} {w:World} {H:Heap} (hs:St L g w H) {v:Value} {l:List Bytes} {tk:Tok} (h:Rep L g v (.lst (aQ l) tk)):
  ∃a c,v=.slice a l.length c∧l.length≤c∧(l≠[]→∃b o,a=some ⟨b,o,none⟩∧b<w.heap.size∧∀(j:Nat) s,l[j]?=some s→w.cell? ⟨b,o+j,none⟩=some (.string ⟨s.toArray⟩)):=by
 obtain⟨a,c,k,b,o,vs,rfl,h1,h2,_,h4,_,h6⟩:=lZ h;rw[tC]at h6;have hv:=E9 h6;have hl:(aQ l).length=l.length:=by simp[aQ]
 rw[hl]at h4⊢;refine⟨a,c,rfl,h4,fun hne=>⟨b,o,h1 (by intro e;apply hne;simpa[aQ]using e),?_,fun j s hj=>?_⟩⟩
 ·obtain⟨s,l',rfl⟩:=List.exists_cons_of_ne_nil hne
  have:=h2 0 (.string ⟨s.toArray⟩) (by rw[hv];rfl);exact hs.FX this
 ·exact hs.fz b (o+j) _ (h2 j _ (by rw[hv];simp[hj]))
structure qO (L:Lnk)where
 Qf:Nat
 Vj:TypeId
 indexByte:∀(s:ByteArray) (c:Int) (w:World),Calls L.P (L.num 49) #[.string s,.int .u8 c] w fun e w'=>e=.returned (.int .i64 (Lib.indexByte s.data.toList c.toNat.toUInt8))∧w'=w
 cut:∀(s sep:ByteArray) (m:Int) (w:World),s.size<4294967281→w.cell? ⟨Qf,0,none⟩=some (.int .i64 m)→
  Calls L.P (L.num 22) #[.string s,.string sep] w fun e w'=>e=.returned (.tuple #[.string ⟨(Lib.cut s.data.toList sep.data.toList).1.toArray⟩,.string ⟨(Lib.cut s.data.toList sep.data.toList).2.1.toArray⟩,.bool (Lib.cut s.data.toList sep.data.toList).2.2])∧∃n,w'=w.drewN n
 JR:∀(a:Option Addr) (c:Nat) (sep:ByteArray) (w:World),Calls L.P (L.num 20) #[.slice a 0 c,.string sep] w fun e w'=>e=.returned (.string ⟨[].toArray⟩)∧Below w.heap.size w w'
 join:∀(bk o c:Nat) (xs:List ByteArray) (sep:ByteArray) (w:World),(∀(j:Nat) x,xs[j]?=some x→w.cell? ⟨bk,o+j,none⟩=some (.string x))→bk<w.heap.size→xs.length≤140737488355328→xs.length≤c→
  (Lib.join (xs.map (·.data.toList)) sep.data.toList).length≤140737488355328→
  Calls L.P (L.num 20) #[.slice (some ⟨bk,o,none⟩) xs.length c,.string sep] w fun e w'=>e=.returned (.string ⟨(Lib.join (xs.map (·.data.toList)) sep.data.toList).toArray⟩)∧Below w.heap.size w w'
 clone:∀(b off n c:Nat) (zs:List ByteArray) (w:World),n≤zs.length→n*16≤140737488355328→(∀j,j<zs.length→w.cell? ⟨b,off+j,none⟩=some (.string (zs.getD j ByteArray.empty)))→
  Calls L.P (L.num 208) #[.slice (some ⟨b,off,none⟩) n c] w fun e w'=>∃v',e=.returned v'∧w'.ownsRow w.heap.size Vj 1 v' n ((zs.take n).map (Value.string))∧v'≠.slice none 0 0∧Below w.heap.size w w'
 KF:∀(n c:Nat) (w:World),Calls L.P (L.num 208) #[.slice none n c] w fun e w'=>e=.returned (.slice none 0 0)∧w'=w
 Gf:∀(a:Addr) (c:Nat) (w:World),Calls L.P (L.num 208) #[.slice (some a) 0 c] w fun e w'=>∃v',e=.returned v'∧w'.ownsRow w.heap.size Vj 1 v' 0 []∧v'≠.slice none 0 0∧Below w.heap.size w w'
 st:∀w0 base,L.start w0 base→Qf<base∧∃m,w0.cell? ⟨Qf,0,none⟩=some (.int .i64 m)
theorem qO.VE (M:qO L):OL L where
 join:=fun ws sep h1 h2 H=>vR fun g w vs hs hr=>by
  obtain⟨v,u,rfl,r1,r2⟩:=Jj hr;rw[iU r2];obtain⟨a,c,rfl,hc,hcell⟩:=IX hs r1;refine⟨_,.str _,?_⟩
  cases ws with
  |nil=>exact M.JR a c _ w
  |cons s ws=>
   obtain⟨b,o,rfl,hb,hcell⟩:=hcell (by simp)
   have hmm:((s::ws).map fun s=>(⟨s.toArray⟩:ByteArray)).map (·.data.toList)=s::ws:=by
    rw[List.map_map];exact(List.map_congr_left (g:=id) fun x _=>by simp).trans (List.map_id _)
   have:=M.join b o c ((s::ws).map fun s=>⟨s.toArray⟩) ⟨sep.toArray⟩ w (fun j x hx=>by
    rw[List.getElem?_map]at hx
    cases hj:(s::ws)[j]? with
    |none=>rw[hj]at hx;cases hx
    |some y=>rw[hj]at hx;cases hx;exact hcell j y hj) hb (by simp at h2⊢;omega) (by simpa using hc) (by rw[hmm,CG,DC];omega)
   rw[hmm,CG,DC]at this;simpa using this
theorem WZ {f : Nat} {args : List aA} {H : Heap} {xs : List aA} {t : TypeId} (hk : ∀ x ∈ xs, x.cells.length = 1)
  (hc : ∀ g w vs, St L g w H → aY L g vs args → ∃ us, aY L g us (flat xs) ∧
   Calls L.P (L.num f) vs.toArray w fun e w' => ∃ v', e = .returned v' ∧ w'.ownsRow w.heap.size t 1 v' xs.length us ∧ Below w.heap.size w w') :
  aD L f args H fun r H' => r = .ret (.lst xs .none) ∧ H' = H := fun g w vs hs hr => by
 obtain ⟨us, h1, h2⟩ := hc g w vs hs hr
 refine h2.mono fun e w' ⟨v', e1, hown, hb⟩ => ?_
 have hs1 := hs.wider hb
 rcases hown.2 with ⟨rfl, h0⟩ | ⟨gb, cap, cur, rfl, hge, hblk, hcap, _, _, hcells⟩
 ·obtain rfl : xs = [] := List.eq_nil_of_length_eq_zero h0
  exact ⟨.ret (.lst [] .none), H, g, ⟨rfl, rfl⟩, aB.le.refl g, hs1, _, e1, .lst none 0 1 0 0 [] [] .none (fun h => absurd rfl h) (fun j v h => by simp at h) (by simp) (Nat.le_refl 0) trivial .nil⟩
 ·have hul : us.length = xs.length := by have := hown.1; omega
  have hkp : g.kp gb = none := by
   cases hq : g.kp gb with
   | none => rfl
   | some o => have := hs.NM hq; omega
  have hf : ∀ o, 0 ≤ o → o < 0 + us.length → g.fz gb o = none := fun o _ _ => by
   cases hq : g.fz gb o with
   | none => rfl
   | some v => have := hs.FX hq; omega
  have hle := aB.oF hkp hf
  have h8 : St L (g.iZ gb 0 us) w' H := hs1.qj hkp hf (fun j v hv => by
   rw [Nat.zero_add]
   have h3 : cur.toList[j]? = some v := by
    have h4 : (cur.toList.take (xs.length * 1))[j]? = some v := by rw [hcells]; exact hv
    rw [List.getElem?_take] at h4
    split at h4
    ·exact h4
    ·cases h4
   simp only [World.cell?, hblk, Option.isSome_none, Bool.false_eq_true, if_false]
   simpa using h3) (fun id o s _ _ hq => by have := hs.bnd _ _ _ hq; omega)
  exact ⟨.ret (.lst xs .none), H, _, ⟨rfl, rfl⟩, hle, h8, _, e1, .lst _ _ 1 gb 0 xs us .none (fun _ => rfl) (fun j v hv => aB.qC _ _ _ _ j v hv) hk hcap trivial (h1.mono hle)⟩
theorem qO.MU (M:qO L) (ns:List Bytes) (hn:ns.length≤2^40):Pure L 208 [.lst (aQ ns) .none] (.lst (aQ ns) .none):=fun H=>by
 refine WZ (t:=M.Vj) (fun x hx=>by
  simp only[aQ,List.mem_map]at hx;obtain⟨s,_,rfl⟩:=hx
  rfl) fun g w vs hs hr=>?_
 obtain⟨v,rfl,h⟩:=Jk hr;obtain⟨a,c,rfl,hc,hcell⟩:=IX hs h;have hl:(aQ ns).length=ns.length:=by simp[aQ]
 rw[tC,hl];refine⟨_,x9 ns,?_⟩
 cases ns with
 |nil=>
  cases a with
  |none=>exact(M.KF 0 c w).mono fun e w' ⟨e1,e2⟩=>⟨_,e1,⟨rfl,.inl ⟨rfl,rfl⟩⟩,e2▸Below.refl _ _⟩
  |some a=>exact(M.Gf a c w).mono fun e w' ⟨v',e1,e2,_,e3⟩=>⟨v',e1,e2,e3⟩
 |cons s ns=>
  obtain⟨b,o,rfl,hb,hcell⟩:=hcell (by simp)
  have h3:=M.clone b o (s::ns).length c ((s::ns).map fun s=>⟨s.toArray⟩) w (by simp) (by omega) (fun j hj=>by
   have hj':j<(s::ns).length:=by simpa using hj
   rw[hcell j (s::ns)[j] (List.getElem?_eq_getElem hj')]
   simp only[List.getD_eq_getElem?_getD,List.getElem?_map,List.getElem?_eq_getElem hj',Option.map_some,Option.getD_some])
  refine h3.mono fun e w' ⟨v',e1,e2,_,e3⟩=>⟨v',e1,?_,e3⟩
  rw[List.take_of_length_le (by simp),List.map_map]at e2;exact e2
theorem ixb (c:UInt8):∀l:Bytes,decide (Lib.indexByte l c≥0)=inA c l
 |[]=>rfl
 |b::l=>by
  have ih:=ixb c l;have hge:=Lib.indexByte_ge l c;unfold inA at ih⊢;rw[List.any_cons,Lib.indexByte,←ih];cases hb:(b==c)
  ·simp only[Bool.false_eq_true,if_false,Bool.false_or]
   by_cases h1:Lib.indexByte l c= -1
   ·rw[h1];rfl
   ·rw[if_neg (by simpa using h1)]
    have:Lib.indexByte l c≥0:=by omega
    rw[decide_eq_true this];exact decide_eq_true (by omega)
  ·simp
theorem qO.lex (M:qO L):UQ L where
 idx:=fun c=>⟨Lib.indexByte lK c,ixb c lK,fun H=>vR fun g w vs hs hr=>by
  obtain⟨v,u,rfl,h1,h2⟩:=Jj hr;rw[iU h1,gL h2];refine⟨_,.int _ _,(M.indexByte _ _ w).mono fun e w' ⟨e1,e2⟩=>⟨?_,e2▸Below.refl _ _⟩⟩;rw[e1,CG]
  simp⟩
 cut:=fun c s hs0 H=>vR fun g w vs hs hr=>by
  obtain⟨v,u,rfl,h1,h2⟩:=Jj hr;rw[iU h1,iU h2];obtain⟨q1,m,q2⟩:=M.st _ _ hs.fact;have hm:w.cell? ⟨M.Qf,0,none⟩=some (.int .i64 m):=(hs.below.cell (p:=⟨M.Qf,0,none⟩) q1).trans q2;refine⟨_,.tup [_,_,_] _ (.cons _ _ _ _ (.str _) (.cons _ _ _ _ (.str _) (.cons _ _ _ _ (.bool _) .nil))),(M.cut _ _ m w (by rw[sizeB];omega) hm).mono fun e w' ⟨e1,n,e2⟩=>⟨?_,e2▸below_drewN _ _⟩⟩;rw[e1,CG,CG,Xd]
end Go.Ag
/- The library's sorts: what they do to a row. -/
namespace Go.Ag
open Go Go.Sort Go.Proofs
open Go.RowKit (Below)
variable {L : Lnk} {g : aB} {w : World} {H : Heap}
theorem Jh (hs:St L g w H) {id v t k:Nat} {xs ys:List aA} {s:kH} {cur cur':Array Value} {w':World} (hH:H[id]?=some (.arr v xs t)) (hs':g.ob id v=some s) (hsk:s.k=k)
  (hcur:w.heap[s.b]?=some (.cells cur (L.ty t) (0,0))) (hcur':w'.heap[s.b]?=some (.cells cur' (L.ty t) (0,0))) (hsize:cur'.size=cur.size) (hy:∀y∈ys,y.cells.length=k) (hlen:ys.length=xs.length)
  (hother:∀b,b≠s.b→b<w.heap.size→w'.heap[b]?=w.heap[b]?) (hsz:w.heap.size≤w'.heap.size) (hos:w'.os=w.os) (htp:w'.tape=w.tape) (hout:w'.output=w.output)
  (hrep:aY L g (cur'.toList.take (ys.length*k)) (flat ys)):St L g w' (H.set id (.arr v ys t)):=by
 obtain⟨s0,cur0,e1,e0,e2,e3,e4,e5,e6,e7,e8,e9,e10⟩:=hs.obj id _ hH;rw[hs']at e1;cases e1;rw[hcur]at e4;cases e4
 exact hs.Le (s1:=s) hH rfl hs' (aB.le.refl g) rfl rfl rfl (fun _ _ _=>rfl) (fun _ s2 h2=>.inl h2) (fun _=>hs') (.inl rfl) (Nat.lt_of_lt_of_le (hs.bnd _ _ _ hs') hsz) e9 (by rw[hcur];simp)
  hother hsz hos htp hout
  ⟨s,cur',hs',e0,e2,e3,hcur',hsize.trans e5,fun x hx=>by rw[hsk];exact hy x hx,by rw[hlen];exact e7,by rw[hsk];exact hrep,e9,e10⟩
theorem Kc {w:World} {blk n:Nat} {f:Array Value→Array Value} {os:Array Obj} {cur:Array Value} {t:TypeId} (h:w.heap[blk]?=some (.cells cur t (0,0))):
  (grow (mapBlock (Sort.ahead w n) blk f) os).heap[blk]?=some (.cells (f cur) t (0,0)):=by
 have hlt:blk<w.heap.size:=(Array.getElem?_eq_some_iff.1 h).1;show(w.heap.modify blk (onCells f) ++os)[blk]?=_;rw[Array.getElem?_append_left (by simpa using hlt),Array.getElem?_modify,if_pos rfl,h];rfl
theorem FT {w:World} {blk n b:Nat} {f:Array Value→Array Value} {os:Array Obj} (hb:b≠blk) (hlt:b<w.heap.size):
  (grow (mapBlock (Sort.ahead w n) blk f) os).heap[b]?=w.heap[b]?:=by
 show(w.heap.modify blk (onCells f) ++os)[b]?=_;rw[Array.getElem?_append_left (by simpa using hlt),Array.getElem?_modify,if_neg (Ne.symm hb)]
theorem DX {w:World} {blk n:Nat} {f:Array Value→Array Value} {os:Array Obj}:w.heap.size≤(grow (mapBlock (Sort.ahead w n) blk f) os).heap.size:=by
 show w.heap.size≤(w.heap.modify blk (onCells f) ++os).size;rw[Array.size_append,Array.size_modify];omega
theorem xM {α:Type} [Inhabited α] (enc:α→Value) (d:Array α) (c:Array Value) (off:Nat):(putCells enc off d c).size=c.size:=by simp[putCells]
theorem xL {α:Type} [Inhabited α] (enc:α→Value) (d:Array α) (c:Array Value) (h:d.size≤c.size):(putCells enc 0 d c).toList.take d.size=d.toList.map enc:=by
 apply List.ext_getElem?;intro j;rw[List.getElem?_take];split
 ·rename_i hj
  simp only[putCells,Array.getElem?_toList,List.getElem?_map,Array.getElem?_mapIdx];rw[Array.getElem?_eq_getElem (by omega),Array.getElem?_eq_getElem hj];simp[hj]
 ·rename_i hj
  rw[List.getElem?_eq_none (by simp;omega)]
structure AU (L:Lnk):Prop where
 sort:∀(blk off cap:Nat) (ss:List Bytes) (w:World),Holds encStr w blk off ss.toArray→blk<w.heap.size→ss.length<4611686018427387904→
  Calls L.P (L.num 200) #[.slice (some ⟨blk,off,none⟩) ss.length cap] w fun e w'=>
   e=.returned (.tuple #[])∧∃n os,w'=grow (putRow encStr (Sort.ahead w n) blk off (ss.mergeSort fun x y=>decide (x≤y)).toArray) os
 none:∀(p:Option Addr) (cap:Nat) (w:World),Calls L.P (L.num 200) #[.slice p 0 cap] w fun e w'=>e=.returned (.tuple #[])∧w'=w
theorem AU.par (M:AU L):Iw L where
 CU:=fun H=>vR fun g w vs hs hr=>by
  obtain⟨v,rfl,h⟩:=Jk hr;obtain⟨a,c,k,b,o,vs,rfl,_⟩:=lZ h;exact⟨_,.tup [] [] .nil,(M.none a c w).mono fun e w' ⟨e1,e2⟩=>⟨e1,e2▸Below.refl _ _⟩⟩
 sort:=fun l n id t H hH hn hne hl g w vs hs hr=>by
  obtain⟨v,rfl,h⟩:=Jk hr
  cases h with
  |vec _ _ _ _ _ c s hs' hsk hc hz=>
   obtain⟨s0,cur,e1,e0,e2,e3,e4,e5,e6,e7,e8,e9,e10⟩:=hs.obj id _ hH;rw[hs']at e1;cases e1;have hll:(aQ l).length=l.length:=by simp[aQ]
   rw[hsk,Nat.mul_one,hll]at e7 e8;rw[tC]at e8;have hcells:=E9 e8
   have R7:Holds encStr w s.b 0 l.toArray:=fun j hj=>by
    have hj':j<l.length:=by simpa using hj
    have h3:cur.toList[j]?=some (.string ⟨l[j].toArray⟩):=by
     have:(cur.toList.take l.length)[j]?=some (.string ⟨l[j].toArray⟩):=by rw[hcells];simp[hj']
     rw[List.getElem?_take,if_pos hj']at this;exact this
    rw[Nat.zero_add];refine⟨?_,by simp[World.frozen?,e4]⟩;simp only[World.cell?,e4,Option.isSome_none,Bool.false_eq_true,if_false];rw[←Array.getElem?_toList,h3];simp[encStr,hj']
   have hcall:=M.sort s.b 0 c l w R7 (hs.bnd _ _ _ hs') (by omega);rw[hn];refine hcall.mono fun e w' ⟨he,m,os,hw⟩=>?_
   have hpl:(nE l).length=l.length:=(tV l).length_eq
   have hst:St L g w' (H.set id (.arr n (aQ (nE l)) t)):=by
    rw[hw];refine Jh hs hH hs' hsk e4 (Kc e4) (xM _ _ _ _) (fun y hy=>?_) (by simp[aQ,hpl]) (fun b hb hlt=>FT hb hlt) DX rfl rfl rfl ?_
    ·simp only[aQ,List.mem_map]at hy
     obtain⟨s,_,rfl⟩:=hy;rfl
    ·rw[tC,Nat.mul_one]
     have h5:=xL encStr (nE l).toArray cur (by simp[hpl];omega);have h6:(nE l).toArray.size=(aQ (nE l)).length:=by simp[aQ]
     rw[h6]at h5;show aY L g ((putCells encStr 0 (nE l).toArray cur).toList.take _) _;rw[h5];exact x9 _
   exact⟨.ret (.tup []),H.set id (.arr l.length (aQ (nE l)) t),g,⟨rfl,rfl⟩,aB.le.refl g,hn▸hst,_,he,.tup [] [] .nil⟩
end Go.Ag
/- The library's sort of keyed types by a comparing function: what it does to a row. -/
namespace Go.Ag
open Go Go.Sort Go.Proofs
open Go.RowKit (Below)
variable {L : Lnk} {g : aB} {w : World} {H : Heap}
def KV :Type:={q:List Value×Bytes//q.1.length=4∧∀v∈q.1,v.oneCell'=true}
instance : Inhabited KV := ⟨⟨([.bool false, .bool false, .bool false, .bool false], []), rfl, fun v hv => by simp at hv; subst hv; rfl⟩⟩
def rV (x:KV):List Value:=x.1.1 ++[.string ⟨x.1.2.toArray⟩]
theorem Ea (x:KV):(rV x).length=5:=by simp[rV,x.2.1]
theorem SV (x:KV):∀v∈rV x,v.oneCell'=true:=fun v hv=>by
 rcases List.mem_append.1 hv with hv|hv
 ·exact x.2.2 v hv
 ·simp only[List.mem_singleton]at hv;subst hv;rfl
theorem D5 {α:Type} [Inhabited α] {enc:α→List Value} {k:Nat} (hk:∀x,(enc x).length=k):∀(l:List α) (j:Nat),j<l.length*k→(l.flatMap enc)[j]?=some ((enc (l[j/k]!))[j%k]!)
 |[],j,h=>by simp at h
 |x::l,j,h=>by
  have h0:0<k:=by
   rcases Nat.eq_zero_or_pos k with h'|h'
   ·subst h';simp at h
   ·exact h'
  rw[List.flatMap_cons];rcases Nat.lt_or_ge j k with hj|hj
  ·rw[List.getElem?_append_left (by rw[hk];exact hj),Nat.div_eq_of_lt hj,Nat.mod_eq_of_lt hj,List.getElem?_eq_getElem (by rw[hk];exact hj)]
   simp[hk,hj]
  ·rw[List.getElem?_append_right (by rw[hk];exact hj),hk]
   have h1:j-k<l.length*k:=by rw[List.length_cons,Nat.add_mul]at h;omega
   rw[D5 hk l (j-k) h1];have h2:j/k=(j-k)/k+1:=by rw[←Nat.sub_add_cancel hj,Nat.add_div_right _ h0];simp
   have h3:j%k=(j-k)%k:=by rw[Nat.mod_eq_sub_mod hj]
   rw[h2,h3];rfl
theorem D6 {α:Type} [Inhabited α] {enc:α→List Value} {k:Nat} (hk:∀x,(enc x).length=k) (d:Array α):(flatK enc k d).toList=d.toList.flatMap enc:=by
 have hl:(d.toList.flatMap enc).length=d.size*k:=by
  rw[List.length_flatMap,show d.toList.map (fun x=>(enc x).length)=d.toList.map fun _=>k from List.map_congr_left fun x _=>hk x,List.map_const',List.sum_replicate_nat,Array.length_toList]
 apply List.ext_getElem?;intro j;rcases Nat.lt_or_ge j (d.size*k)with hj|hj
 ·rw[D5 hk d.toList j (by simpa using hj)]
  rw[Array.getElem?_toList,Array.getElem?_eq_getElem (by simpa using hj)];have:=get_flatK enc k d j hj;rw[getElem!_pos _ j (by simpa using hj)]at this;rw[this];simp
  congr 2
  rw[getElem!_def];cases d[j/k]?<;>rfl
 ·rw[List.getElem?_eq_none (by simpa using hj),List.getElem?_eq_none (by rw[hl];exact hj)]
theorem Fp {α β:Type} {f:α→β}:∀{l:List β} {zs:List α},(zs.map f).Perm l→∃zs',zs.Perm zs'∧zs'.map f=l
 |[],zs,h=>by
  have:zs=[]:=by simpa using h.eq_nil
  subst this;exact⟨[],.refl _,rfl⟩
 |y::l,zs,h=>by
  have hy:y∈zs.map f:=h.symm.subset List.mem_cons_self;obtain⟨z,hz,rfl⟩:=List.mem_map.1 hy;obtain⟨s,t,rfl⟩:=List.append_of_mem hz
  have h1:((s ++z::t).map f).Perm (f z::(s ++t).map f):=by
   simp only[List.map_append,List.map_cons];exact List.perm_middle
  have h2:((s ++t).map f).Perm l:=List.Perm.cons_inv (h1.symm.trans h);obtain⟨zs',e1,e2⟩:=Fp h2;exact⟨z::zs',List.perm_middle.trans (e1.cons z),by rw[List.map_cons,e2]⟩
theorem PG {us:List Value}:∀{xs:List (TA×Bytes)},aY L g us (flat (kvs xs))→∃zs:List (KV×(TA×Bytes)),zs.map (·.2)=xs∧us=(zs.map (·.1)).flatMap rV∧∀z∈zs,aY L g (rV z.1) (JQ z.2)∧z.1.1.2=z.2.2:=fun{xs} h=>by
 induction xs generalizing us with
 |nil=>cases h;exact⟨[],rfl,rfl,fun z hz=>by cases hz⟩
 |cons p xs ih=>
  obtain⟨⟨k,nm,ns,l⟩,s⟩:=p;rw[show flat (kvs ((TA.mk k nm ns l,s)::xs))=.int .i64 k::.str nm::.lst (aQ ns) .none::.lst (TA.avs l) .none::.str s::flat (kvs xs)from rfl]at h
  cases h with|cons v0 _ _ _ h0 h=>
  cases h with|cons v1 _ _ _ h1 h=>
  cases h with|cons v2 _ _ _ h2 h=>
  cases h with|cons v3 _ _ _ h3 h=>
  cases h with|cons v4 _ vs _ h4 h=>
  obtain⟨zs,e1,e2,e3⟩:=ih h;have hs:=iU h4;subst hs;refine⟨(⟨([v0,v1,v2,v3],s),rfl,fun v hv=>?_⟩,(.mk k nm ns l,s))::zs,by rw[List.map_cons,e1],?_,fun z hz=>?_⟩
  ·simp only[List.mem_cons,List.not_mem_nil,or_false]at hv
   rcases hv with rfl|rfl|rfl|rfl
   ·exact vE h0 rfl
   ·exact vE h1 rfl
   ·exact vE h2 rfl
   ·exact vE h3 rfl
  ·rw[List.map_cons,List.flatMap_cons,←e2];rfl
  ·rcases List.mem_cons.1 hz with rfl|hz
   ·exact⟨.cons _ _ _ _ h0 (.cons _ _ _ _ h1 (.cons _ _ _ _ h2 (.cons _ _ _ _ h3 (.cons _ _ _ _ h4 .nil)))),rfl⟩
   ·exact e3 z hz
theorem JN :∀{zs:List (KV×(TA×Bytes))},(∀z∈zs,aY L g (rV z.1) (JQ z.2)∧z.1.1.2=z.2.2)→aY L g ((zs.map (·.1)).flatMap rV) (flat (kvs (zs.map (·.2))))
 |[],_=>.nil
 |z::zs,h=>by
  rw[List.map_cons,List.map_cons,List.flatMap_cons];exact((h z List.mem_cons_self).1).append (JN fun y hy=>h y (List.mem_cons_of_mem _ hy))
structure tH (L:Lnk)where
 cf:Bytes→Bytes→Int
 lt:∀s t:Bytes,cf s t<0↔s<t
 sort:∀(blk off cap:Nat) (d:Array KV) (w:World),HoldsK rV 5 w blk off d→blk<w.heap.size→d.size<4611686018427387904→
  Calls L.P (L.num 252) #[.slice (some ⟨blk,off,none⟩) d.size cap,.func (.func (L.num 253)) #[] #[]] w fun e w'=>
   e=.returned (.tuple #[])∧∃d' n os,PermIn 0 d.size d d'∧SortedIn (fun x y=>decide (cf x.1.2 y.1.2<0)) 0 d.size d'∧w'=sortWorldK rV 5 w blk off n d' os
 none:∀(p:Option Addr) (cap:Nat) (fv:Value) (w:World),Calls L.P (L.num 252) #[.slice p 0 cap,fv] w fun e w'=>e=.returned (.tuple #[])∧w'=w
theorem tH.CU (M:tH L) (H:Heap):aD L 252 [.lst [] .nil,.fn (.func 253) [] []] H fun r H'=>r=.ret (.tup [])∧H'=H:=vR fun g w vs hs hr=>by
 obtain⟨v,u,rfl,h,_⟩:=Jj hr;obtain⟨a,c,k,b,o,vs,rfl,_⟩:=lZ h;exact⟨_,.tup [] [] .nil,(M.none a c u w).mono fun e w' ⟨e1,e2⟩=>⟨e1,e2▸Below.refl _ _⟩⟩
theorem tH.O8 (M:tH L) (xs:List (TA×Bytes)) (n id t:Nat) (H:Heap) (hH:H[id]?=some (.arr n (kvs xs) t)) (hn:n=xs.length) (hne:xs≠[]) (hl:n≤2^40):
  aD L 252 [.vec id n 5 0 n,.fn (.func 253) [] []] H fun r H'=>r=.ret (.tup [])∧∃ys:List (TA×Bytes),ys.Perm xs∧ys.Pairwise (fun a b=>a.2≤b.2)∧H'=H.set id (.arr n (kvs ys) t):=fun g w vs hs hr=>by
 obtain⟨v,u,rfl,h,hu⟩:=Jj hr
 cases hu with|fn f _ fi ca _ _ hf h1 h2=>
 cases h1;cases h2
 cases f with
 |func f=>
  obtain⟨rfl,_⟩:=hf
  cases h with
  |vec _ _ _ _ _ c s hs' hsk hc hz=>
   obtain⟨s0,cur,e1,e0,e2,e3,e4,e5,e6,e7,e8,e9,e10⟩:=hs.obj id _ hH;rw[hs']at e1;cases e1;rw[hsk,jO]at e7 e8;obtain⟨zs,f1,f2,f3⟩:=PG e8;have hzl:zs.length=n:=by rw[hn,←f1];simp
   have hds:(zs.map (·.1)).toArray.size=n:=by simp[hzl]
   have hfl:(flatK rV 5 (zs.map (·.1)).toArray).toList=cur.toList.take (xs.length*5):=by rw[D6 Ea,f2]
   have hfs:(flatK rV 5 (zs.map (·.1)).toArray).size=xs.length*5:=by simp[hzl,hn]
   have R7:HoldsK rV 5 w s.b 0 (zs.map (·.1)).toArray:=fun j hj=>by
    rw[hfs]at hj
    have h3:cur.toList[j]?=some ((flatK rV 5 (zs.map (·.1)).toArray)[j]!):=by
     have h4:(flatK rV 5 (zs.map (·.1)).toArray).toList[j]?=cur.toList[j]?:=by rw[hfl,List.getElem?_take,if_pos hj]
     rw[←h4,Array.getElem?_toList,Array.getElem?_eq_getElem (by rw[hfs];exact hj),getElem!_pos _ j (by rw[hfs];exact hj)]
    rw[Nat.zero_add];refine⟨?_,by simp[World.frozen?,e4]⟩;simp only[World.cell?,e4,Option.isSome_none,Bool.false_eq_true,if_false];rw[←Array.getElem?_toList,h3];rfl
   have hcall:=M.sort s.b 0 c _ w R7 (hs.bnd _ _ _ hs') (by rw[hds];omega);rw[hds]at hcall;refine hcall.mono fun e w' ⟨he,d',m,os,hp,hso,hw⟩=>?_
   obtain⟨p1,_,p3⟩:=hp;rw[hds]at p1
   have hperm:(zs.map (·.1)).Perm d'.toList:=by
    have e1:(d'.extract 0 n)=d':=by rw[←p1,Array.extract_size]
    have e2:((zs.map (·.1)).toArray.extract 0 n)=(zs.map (·.1)).toArray:=by
     conv=>lhs;rw[←hds]
     rw[Array.extract_size]
    rw[e1,e2]at p3;exact p3.symm
   obtain⟨zs',g1,g2⟩:=Fp hperm;have f3':∀z∈zs',aY L g (rV z.1) (JQ z.2)∧z.1.1.2=z.2.2:=fun z hz=>f3 z (g1.symm.subset hz)
   have hzl':zs'.length=n:=by rw[←g1.length_eq,hzl]
   have hys:(zs'.map (·.2)).Perm xs:=by rw[←f1];exact(g1.symm.map _)
   have hd':d'=(zs'.map (·.1)).toArray:=by rw[g2]
   refine⟨.ret (.tup []),H.set id (.arr n (kvs (zs'.map (·.2))) t),g,⟨rfl,_,hys,?_,rfl⟩,aB.le.refl g,?_,_,he,.tup [] [] .nil⟩
   ·rw[List.pairwise_iff_getElem]
    intro i j hi hj hij;have hi':i<zs'.length:=by simpa using hi
    have hj':j<zs'.length:=by simpa using hj
    have h5:=hso i j (Nat.zero_le _) hij (by omega);rw[hd']at h5;have q1:(zs'.map (·.1)).toArray[i]! =zs'[i].1:=by rw[getElem!_pos _ i (by simpa using hi')];simp
    have q2:(zs'.map (·.1)).toArray[j]! =zs'[j].1:=by rw[getElem!_pos _ j (by simpa using hj')];simp
    rw[q1,q2]at h5;dsimp only at h5;rw[(f3' _ (List.getElem_mem hi')).2,(f3' _ (List.getElem_mem hj')).2]at h5;have h6:=of_decide_eq_false h5;have h7:¬zs'[j].2.2<zs'[i].2.2:=fun hh=>h6 ((M.lt _ _).2 hh)
    simpa using List.not_lt.1 h7
   ·rw[hw]
    have h7:sortWorldK rV 5 w s.b 0 m d' os=grow (mapBlock (Sort.ahead w m) s.b (putCells (_root_.id:Value→Value) 0 (flatK rV 5 d'))) os:=rfl;rw[h7];have hfs':(flatK rV 5 d').size=n*5:=by simp[p1]
    refine Jh hs hH hs' hsk e4 (Kc e4) (xM _ _ _ _) (fun y hy=>vL _ y hy) (by rw[jO,jO,List.length_map,hzl',hn]) (fun b hb hlt=>FT hb hlt) DX rfl rfl rfl ?_;rw[jO,List.length_map,hzl'];have h8:=xL (_root_.id:Value→Value) (flatK rV 5 d') cur (by rw[hfs'];omega);rw[hfs',List.map_id,D6 Ea]at h8;rw[h8,hd'];exact JN f3'
 |_=>exact absurd hf (by simp[K4])
end Go.Ag
/- The library's ParseInt of a text of digits: what the document's Number is. -/
namespace Go.Ag
open Go
open Go.RowKit (Below)
variable {L : Lnk}
def pQ (n:Nat) (c:UInt8):Nat:=n*10+(c.toNat-48)
theorem Rs {n:Nat} {c:UInt8} (h1:48≤c.toNat) (h2:c.toNat≤57) (hn:n<10^17):wH (n:Int) c=((pQ n c:Nat):Int):=by
 unfold wH pQ;have e1:IntKind.u8.wrap ((c.toNat:Int)-48)=(c.toNat:Int)-48:=IntWalk.u8_in _ (by omega);rw[e1,IntWalk.i64_in (10*(n:Int)) (by omega),IntWalk.i64_in ((c.toNat:Int)-48) (by omega),IntWalk.i64_in _ (by omega)];omega
theorem Ju :∀(l:Bytes) (acc:Nat),(∀c∈l,48≤c.toNat∧c.toNat≤57)→l.length≤18→acc<10^(18-l.length)→
  Lib.parseUintM (2^64-1) acc l=.ok (l.foldl pQ acc)∧l.foldl wH (acc:Int)=((l.foldl pQ acc:Nat):Int)∧l.foldl pQ acc<10^18
 |[],acc,h,hl,ha=>⟨rfl,rfl,ha⟩
 |c::l,acc,h,hl,ha=>by
  obtain⟨h1,h2⟩:=h c (by simp);rw[List.length_cons]at hl ha;have e1:18-l.length=(18-(l.length+1))+1:=by omega
  have hp:10^(18-l.length)=10^(18-(l.length+1))*10:=by rw[e1,Nat.pow_succ]
  have hle:10^(18-(l.length+1))≤10^17:=Nat.pow_le_pow_right (by decide) (by omega);have ha2:pQ acc c<10^(18-l.length):=by unfold pQ;omega
  obtain⟨k1,k2,k3⟩:=Ju l (pQ acc c) (fun d hd=>h d (by simp[hd])) (by omega) ha2;refine⟨?_,?_,k3⟩
  ·rw[Lib.parseUintM,if_pos ⟨h1,h2⟩,if_neg (by omega),if_neg (by omega)]
   exact k1
  ·rw[List.foldl_cons,Rs h1 h2 (by omega)]
   exact k2
theorem Pk {s:Bytes} (h:y5 s):Lib.parseIntB 64 s=.ok (uw s):=by
 obtain⟨h0,h1,h2⟩:=h;obtain⟨k1,k2,k3⟩:=Ju s 0 h2 h1 (Nat.pow_pos (by decide))
 cases s with
 |nil=>exact absurd rfl h0
 |cons c r=>
  obtain⟨c1,c2⟩:=h2 c (by simp);unfold Lib.parseIntB;simp only;rw[if_neg (by omega),show Lib.parseUintB 64 (c::r)=.ok ((c::r).foldl pQ 0)from by unfold Lib.parseUintB;rw[if_neg (by simp)];exact k1];simp only;rw[if_neg (by omega),if_neg (by omega),if_neg (by omega)]
  congr 1
  exact k2.symm
structure Iy (L:Lnk)where
 t:TypeId
 parse:∀(s:ByteArray) (v:Int) (w:World),s.size≤9223372036854775806→Lib.parseIntB 64 s.data.toList=.ok v→
  Calls L.P (L.num 322) #[.string s,.int .i64 10,.int .i64 64] w fun e w'=>e=.returned (.tuple #[.int .i64 v,.nilIface])∧(w'=w∨∃z,w'=Lib.bytesWorld w t z)
theorem Iy.lib (M:Iy L):UJ L where
 num:=fun s hs H=>Qj fun g w vs hst hr=>by
  cases hr with
  |cons v _ vs' _ h0 hr=>
   cases hr with
   |cons v1 _ vs1 _ h1 hr=>
    cases hr with
    |cons v2 _ vs2 _ h2 hr=>
     cases hr;cases h0;cases h1;cases h2;have hl:=hs.2.1;refine(M.parse ⟨s.toArray⟩ (uw s) w (by show s.toArray.size≤_;rw[List.size_toArray];omega) (by show Lib.parseIntB 64 s.toArray.toList=_;rw[List.toList_toArray];exact Pk hs)).mono fun e w' ⟨e1,e2⟩=>⟨⟨_,e1,.tup [_,_] _ (.cons _ _ _ _ (.int _ _) (.cons _ _ _ _ .eX .nil))⟩,?_⟩
     rcases e2 with rfl|⟨z,rfl⟩
     ·exact Below.refl _ _
     ·exact Lib.bytesWorld_below _ _ _
end Go.Ag
/- Package parts: Call. -/
namespace Go.Ag
open Go
variable {T : Tab} {L : Lnk}
structure zQ (T:Tab):Prop extends zR T where
 WK:T.has 157 Ul
 Sj:T.has 199 Ov
def tkC (s:List TA):aU:=.cells [xW (TA.avs s) 4 1] 173
def tkO (s:List TA):aU:=BP (TA.avs s) 175
def rO (s:List TA) (h:TA):Option TA×List TA:=(jG h,if h.kind=6 then s ++[fstP h]else s)
theorem NH (s:List TA):bE 2 (tkC s):=by
 unfold tkC;refine eB ⟨?_,trivial⟩
 cases TA.avs s with
 |nil=>exact .lst _ _ trivial gJ
 |cons x l=>exact .vec _ _ _ _ _ (show 1<2 by decide)
theorem NG (s:List TA):bE 2 (tkO s):=by
 have h:=aV 2 s;unfold tkO;generalize TA.avs s=l at h
 cases l with
 |nil=>exact trivial
 |cons x l=>exact h
theorem vH {H H':Heap} {k:Nat} {a x:aA} {P:Heap→Prop} (h:storeAt H k a x=some H') (hp:P H'):(match storeAt H k a x with
  |some H'=>P H'
  |none=>False):=by rw[h];exact hp
theorem xY {H:Heap} {id n t:Nat} {xs:List aA} {z x:aA} (h:H[id]?=some (.arr n (xs ++[z]) t)) (hs:dD 4 (xs ++[z])) (hx:x.cells.length=4):
  storeAt H 4 (.jD id n ((0+((xs.length:Nat):Int).toNat)*4)) x=some (H.set id (.arr n (xs ++[x]) t)):=by
 rw[Int.toNat_natCast,Nat.zero_add];simp only[storeAt,h];rw[if_pos ⟨trivial,hx,by rw[Nat.mul_div_cancel _ (by decide:0<4)],by rw[Nat.mul_div_cancel _ (by decide:0<4)];simp,by rw[List.all_eq_true];exact fun y hy=>by simpa using(hs y hy).1⟩,Nat.mul_div_cancel _ (by decide:0<4)];simp
theorem MV (F:zQ T) {y:TA} (hy:NT y) {s:List TA} (hs:s.length<2^30):
  eu T.L 199 [y.av,.ptr 0 0] [tkC s,tkO s] (.tup [((rO s y).1.getD jE).av,.bool (rO s y).1.isSome]) [tkC (rO s y).2,tkO (rO s y).2]:=by
 refine eu.of 0 rfl (.tup _ (fT.at ⟨aT _ _,.bool _,trivial⟩)) (fU.at ⟨NH _,NG _,trivial⟩)
  (aD.mono (Q:=fun r H'=>∃x J,r=.ret x∧Weak T.L x (.tup [((rO s y).1.getD jE).av,.bool (rO s y).1.isSome])∧H'=[tkC (rO s y).2,tkO (rO s y).2] ++J) ?_ fun r H' ⟨x,J,e1,e2,e3⟩=>⟨x,_,J,e1,e2,e3,rfl,fun i x y h1 h2=>by rw[h1]at h2;cases h2;exact bU.refl x⟩)
 have hz:Weak T.L (.tup [.agg [.int .i64 0,.str [],.lst [] .nil,.lst [] .nil],.bool false]) (.tup [jE.av,.bool false]):=Weak.tup ⟨Weak.agg ⟨Weak.refl _,Weak.refl _,Weak.tok _ _,Weak.tok _ _,trivial⟩,Weak.refl _,trivial⟩
 by_cases hk:y.kind=6
 ·obtain⟨a,b,rfl⟩:∃a b,y=.mk 6 [] [] [a,b]:=by cases hy<;>first|exact⟨_,_,rfl⟩|(cases hk;done)
  have e1:rO s (.mk 6 [] [] [a,b])=(some b,s ++[a]):=rfl;rw[e1];have hsz:=fF s;have hla:(TA.avs s).length=s.length:=bL s;have e3:TA.avs (s ++[a])=TA.avs s ++[a.av]:=iF s [a];unfold tkC tkO;rw[e3];generalize TA.avs s=xs at hsz hla;obtain⟨ak,an,Z0,al⟩:=a;obtain⟨bk,bn,bs,bl⟩:=b;refine aI F.Sj (by simp[Ov]) ?_;have hb1:(xs.length+1)*72≤2^46:=by omega
  have hz1:dD 4 [.agg [.int .i64 0,.str [],.lst [] .nil,.lst [] .nil]]:=fun z hz=>by rw[List.mem_singleton]at hz;subst hz;exact yj rfl
  have hb2:xs.length+1≤2^46:=by omega
  have hszz:dD 4 (xs ++[.agg [.int .i64 0,.str [],.lst [] .nil,.lst [] .nil]]):=fun z hz=>(List.mem_append.1 hz).elim (hsz z) (hz1 z)
  cases xs with
  |nil=>
   conv=>whnf
   refine⟨Int.le_refl 0,?_⟩;conv=>whnf
   refine⟨rfl,?_⟩;conv=>whnf
   refine Ck (xs:=[]) (id:=1) (k:=4) (bytes:=72) (t:=175) hsz hz1 hb1 hb2 (by simp) rfl ?_;conv=>whnf
   refine⟨?_,?_⟩
   ·conv=>whnf
    refine⟨⟨Int.le_refl 0,by decide,rfl⟩,?_⟩;conv=>whnf
    refine⟨?_,?_⟩
    ·conv=>whnf
     refine⟨by decide,?_⟩;conv=>whnf
     refine⟨rfl,?_⟩;conv=>whnf
     exact⟨_,_,rfl,Weak.refl _,rfl⟩
    ·conv=>whnf
     refine⟨by decide,?_⟩;conv=>whnf
     refine⟨rfl,?_⟩;conv=>whnf
     exact⟨_,_,rfl,Weak.refl _,rfl⟩
   ·conv=>whnf
    refine⟨⟨Int.le_refl 0,by decide,rfl⟩,?_⟩;conv=>whnf
    refine⟨by decide,?_⟩;conv=>whnf
    refine⟨rfl,?_⟩;conv=>whnf
    exact⟨_,_,rfl,Weak.refl _,rfl⟩
  |cons x xs=>
   obtain⟨N,hN⟩:∃N,N=(x::xs).length+1:=⟨_,rfl⟩;have hln:∀z,((x::xs) ++[z]).length=N:=fun z=>by rw[hN,List.length_append];rfl
   have hfin:[aU.cells [.vec 1 N 4 0 N] 173,.arr N (x::xs ++[(TA.mk ak an Z0 al).av]) 175]=[.cells [xW (x::xs ++[(TA.mk ak an Z0 al).av]) 4 1] 173,BP (x::xs ++[(TA.mk ak an Z0 al).av]) 175]:=by
    rw[wB (by simp),wC (by simp),hln]
   rw[←hfin];have hbd:0≤(((x::xs).length:Nat):Int)∧(((x::xs).length:Nat):Int)<(N:Nat)∧4=4:=⟨by omega,by omega,rfl⟩;conv=>whnf
   refine⟨Int.le_refl 0,?_⟩;conv=>whnf
   refine⟨rfl,?_⟩;conv=>whnf
   refine Ck (xs:=x::xs) (id:=1) (k:=4) (bytes:=72) (t:=175) hsz hz1 hb1 hb2 (by simp) rfl ?_;rw[hln];conv=>whnf
   refine⟨?_,?_⟩
   ·conv=>whnf
    refine⟨hbd,?_⟩;conv=>whnf
    refine⟨?_,?_⟩
    ·conv=>whnf
     refine vH (xY rfl hszz rfl) ?_;conv=>whnf
     refine⟨by decide,?_⟩;conv=>whnf
     refine⟨rfl,?_⟩;conv=>whnf
     exact⟨_,_,rfl,Weak.refl _,rfl⟩
    ·conv=>whnf
     refine vH (xY rfl hszz rfl) ?_;conv=>whnf
     refine⟨by decide,?_⟩;conv=>whnf
     refine⟨rfl,?_⟩;conv=>whnf
     exact⟨_,_,rfl,Weak.refl _,rfl⟩
   ·conv=>whnf
    refine⟨hbd,?_⟩;conv=>whnf
    refine vH (xY rfl hszz rfl) ?_;conv=>whnf
    refine⟨by decide,?_⟩;conv=>whnf
    refine⟨rfl,?_⟩;conv=>whnf
    exact⟨_,_,rfl,Weak.refl _,rfl⟩
 ·have e1:rO s y=(none,s):=by
   unfold rO jG;rw[if_neg hk,if_neg hk]
  rw[e1];refine aI F.Sj (by simp[Ov]) ?_;obtain⟨yk,yn,ys,yl⟩:=y;conv=>whnf
  rw[show(yk !=6)=true from by simpa[TA.kind]using hk];conv=>whnf
  exact⟨_,_,rfl,hz,rfl⟩
theorem Xe (F:zQ T):M6 T 199 tkC tkO (fun n s=>s.length≤n) rO where
 Pv:=NH
 Pt:=NG
 call:=fun n s y h hn hy _=>MV F hy (by omega)
 next:=fun n s y h=>by
  unfold rO;dsimp only;split
  ·rw[List.length_append,List.length_singleton];omega
  ·omega
theorem RB (s:List TA):bE 0 (tkO s):=by
 have h:=aV 0 s;unfold tkO;generalize TA.avs s=l at h
 cases l with
 |nil=>exact trivial
 |cons x l=>exact h
theorem SY {tv y:aA} {e:fJ} {s:List TA} (h:eu L 195 [.ptr 4 0,tv,.fn (.func 199) [] [.ptr 0 0]] (tkC []::tkO []::nT e) y (tkC s::tkO s::nT e)) (lt:Low 0 tv) (ly:Low 0 y) (c4 c5:aU):
  aD L 195 [.ptr 2 0,tv,.fn (.func 199) [] [.ptr 6 0]] (jd e ++[.dead,c4,c5,.cells [.lst [] .nil] 173]) fun r H'=>r=.ret y∧H'=jd e ++[tkO s,c4,c5,.cells [xW (TA.avs s) 4 3] 173]:=by
 have m1:bE 0 (.map (dh e.by_ 0) e.by_.length):=fH 0 _ _;have m2:bE 0 (.map (gP e.empty 0) e.empty.length):=gK 0 _ _
 have hp:Part (jd e ++[.dead,c4,c5,.cells [.lst [] .nil] 173]) [6,3,0,1,2] (tkC []::tkO []::nT e):=by
  refine⟨by decide,rfl,fun k i o hk ho=>?_⟩
  match k,hk,ho with
  |0,hk,ho=>cases hk;cases ho;rfl
  |1,hk,ho=>cases hk;cases ho;rfl
  |2,hk,ho=>cases hk;cases ho;rw[dF m1];rfl
  |3,hk,ho=>cases hk;cases ho;rw[dF m2];rfl
  |4,hk,ho=>cases hk;cases ho;rfl
  |k+5,hk,ho=>cases hk
 have hf:=aD.nC h [6,3,0,1,2] hp (.inr fun r H' hq=>by rw[hq.2];exact Nat.le_refl 5)
 have ha:[aA.ptr 4 0,tv,.fn (.func 199) [] [.ptr 0 0]].map (ren (nameOf [6,3,0,1,2] (jd e ++[.dead,c4,c5,.cells [.lst [] .nil] 173]).length))=[.ptr 2 0,tv,.fn (.func 199) [] [.ptr 6 0]]:=by
  rw[List.map_cons,List.map_cons,jw lt];rfl
 rw[ha]at hf;refine hf.mono fun r H' ⟨r1,H1',⟨e1,e2⟩,_,e3,e4⟩=>?_
 subst e1 e2;refine⟨by rw[e3];exact congrArg fM.ret (jw ly),?_⟩;rw[e4]
 have q1:jC (nameOf [6,3,0,1,2] (jd e ++[.dead,c4,c5,.cells [.lst [] .nil] 173]).length) (tkC s)=.cells [xW (TA.avs s) 4 3] 173:=by
  unfold tkC;cases TA.avs s<;>rfl
 have q2:=dF (ρ:=nameOf [6,3,0,1,2] (jd e ++[.dead,c4,c5,.cells [.lst [] .nil] 173]).length) (RB s);have q3:=dF (ρ:=nameOf [6,3,0,1,2] (jd e ++[.dead,c4,c5,.cells [.lst [] .nil] 173]).length) m1;have q4:=dF (ρ:=nameOf [6,3,0,1,2] (jd e ++[.dead,c4,c5,.cells [.lst [] .nil] 173]).length) m2;unfold nT;rw[show([6,3,0,1,2]:List Nat).length=5 from rfl];simp only[List.take_succ_cons,List.take_zero,List.drop_succ_cons,List.drop_zero,List.map_cons,List.map_nil,q1,q2,q3,q4,List.append_nil];rfl
theorem vV (h t:TA) (he:jG h=some t):t∈h.l:=by
 unfold jG at he;split at he
 ·exact List.mem_of_getElem? he
 ·cases he
theorem AV (F:zQ T) {by_:List (Bytes×TA)} {e:fJ} {C:List TA} (W:lS by_ e C) {t:TA} (ht:GC' C t) (hw:wtL (hdE e t)≤2^26):
  ∃tk:List TA,EK T.L 157 [t.av] e (.tup [.lst (TA.avs tk) .none,(gives jG (hdE e t)).1.av,.int .i64 (gives jG (hdE e t)).2]):=by
 have hn:∀h∈hdE e t,NT h∧wtT h≤2^30:=fun h hh=>W.Mx ht hh
 have hE:=F7 F.ME (Xe F) (W.J2 F.toyM ht) hn (Sd W ht) [] (Nat.zero_le _);rw[Ec (part:=jG) fun _ _=>rfl]at hE;have hd:=W.Bw ht
 have hJ:(nD jG [] (hdE e t)).2=0→okN (.mk 7 [] [] (nD jG [] (hdE e t)).1):=fun h0=>by
  rcases Classical.em (bK∈hdE e t)with h|h
  ·rw[DU W ht h]at h0;cases h0
  ·have k4:∀h∈hdE e t,h.kind≠4:=fun x hx h4=>h (by rw[←(hd.1 x hx).1.nU h4];exact hx)
   by_cases hp:∃h∈hdE e t,jG h=none
   ·rw[zD _ _ k4 hp]at h0;cases h0
   ·rw[wS _ _ k4 fun x hx=>by
     cases hq:jG x with
     |none=>exact absurd ⟨x,hx,hq⟩ hp
     |some _=>rfl]
    exact Xx vV (fun h hh=>(hn h hh).1) hw
 have hJ:=fun h=>xq F.tovY _ (hJ h)
 unfold gives;generalize nD jG [] (hdE e t)=r at hE hJ;generalize (oN rO [] [] (hdE e t)).2=s' at hE;obtain⟨l,how⟩:=r;dsimp only at hE hJ⊢;have hdy:=Ku F.MC;have lt:=aT 0 t;have hA:=fun c4 c5=>SY hE lt (.tup _ (fT.at ⟨.lst _ _ trivial (aV _ _),.int _ _,trivial⟩)) c4 c5
 refine⟨if how=0 then s' else[],?_⟩;clear hE;have lo:Low 3 (.tup [.lst (TA.avs (if how=0 then s' else[])) .none,(if how=0 then(dR l,0)else(bK,how)).1.av,.int .i64 ((if how=0 then(dR l,0)else(bK,how)).2:Nat)]):=.tup _ (fT.at ⟨.lst _ _ trivial (aV _ _),aT _ _,.int _ _,trivial⟩);refine EK.of 1 lo (aD.freeze (aI F.WK (by simp[Ul]) ?_));obtain⟨tk,tn,ts,tl⟩:=t
 by_cases h0:how=0
 ·subst h0
  have hJ:=hJ rfl;rw[if_pos rfl,if_pos rfl];generalize dR l=u at hJ;obtain⟨uk,un,us,ul⟩:=u;unfold tkO at hA;generalize TA.avs s'=X at hA;conv=>whnf
  refine(hA _ _).mono fun r H' ⟨e1,e2⟩=>?_
  subst e1 e2
  cases X with
  |nil=>
   conv=>whnf
   refine hJ.to ?_;conv=>whnf
   refine⟨⟨rfl,trivial⟩,?_⟩;conv=>whnf
   exact .inl ⟨_,_,rfl,Weak.tup ⟨Weak.tok _ _,Weak.refl _,Weak.refl _,trivial⟩,rfl⟩
  |cons x X=>
   conv=>whnf
   refine hJ.to ?_;conv=>whnf
   refine⟨⟨rfl,trivial⟩,?_⟩;conv=>whnf
   refine .inr ⟨3,x::X,175,4,.ret (.tup [.lst (x::X) .none,(TA.mk uk un us ul).av,.int .i64 0]),rfl,?_,⟨_,_,rfl,Weak.refl _,rfl⟩⟩;exact kX.tup ⟨kX.froze,kX.refl _,kX.refl _,trivial⟩
 ·rw[if_neg h0,if_neg h0]
  generalize TA.avs s'=X at hA;conv=>whnf
  refine(hA _ _).mono fun r H' ⟨e1,e2⟩=>?_
  subst e1 e2;conv=>whnf
  rw[show((how:Int) !=0)=true from by simpa using h0];conv=>whnf
  refine hdy.to ?_;conv=>whnf
  exact .inl ⟨_,_,rfl,Weak.tup ⟨Weak.tok _ _,Weak.refl _,Weak.refl _,trivial⟩,rfl⟩
end Go.Ag
/- Package cupellaw10: PartsUnion. -/
namespace Go.Ag
open Go
variable {T : Tab} {L : Lnk}
structure OJ (T:Tab):Prop extends Ev T,zQ T where
 Sm:T.has 131 Gi
 Qb:T.has 154 KQ
structure PU (f g h i j k:TA) (p q r s t v:Nat):Prop where
 d1:(p=1∨q=1)→r=1∧v=1∧h=bK∧k=bK∧(p=1↔s=1)
 d2:p≠1→q≠1→s≠1∧t≠1∧(r=0↔p=0∧q=0)∧(v=0↔s=0∧t=0)∧(r=0→h=dR [f,g])∧(v=0→k=dR [i,j])∧(r≠0→h=bK∧r=2)∧(v≠0→k=bK∧v=2)
 le:(p=0∨p=1∨p=2)∧(q=0∨q=1∨q=2)∧(s=0∨s=1∨s=2)∧(t=0∨t=1∨t=2)
 n:NT f∧NT g∧NT h∧NT i∧NT j∧NT k
 w:wtT f≤2^27∧wtT g≤2^27∧wtT h≤2^27∧wtT i≤2^27∧wtT j≤2^27∧wtT k≤2^27
theorem Ay {by_:List (Bytes×TA)} {e:fJ} {C:List TA} (W:lS by_ e C) {part:TA→Option TA} {t:TA} (ht:GC' C t):(gives part (hdE e t)).2=1↔bK∈hdE e t:=by
 constructor
 ·intro h
  have hn:=W.Bw ht;apply Classical.byContradiction;intro hd;rcases iR (part:=part) (hs:=hdE e t) (fun h hm h4=>hd (by rw[←(hn.1 h hm).1.nU h4];exact hm))with h'|h'<;>rw[h'.1]at h<;>cases h
 ·intro h
  rw[DU W ht h,wN]
theorem zw {by_:List (Bytes×TA)} {e:fJ} {C:List TA} (W:lS by_ e C) {part:TA→Option TA} {t:TA} (ht:GC' C t):(gives part (hdE e t)).2=0∨(gives part (hdE e t)).2=1∨(gives part (hdE e t)).2=2:=by
 have hn:=W.Bw ht;rcases Classical.em (bK∈hdE e t)with h|h
 ·exact .inr (.inl ((Ay W ht).2 h))
 ·rcases iR (part:=part) (hs:=hdE e t) (fun x hx h4=>h (by rw[←(hn.1 x hx).1.nU h4];exact hx))with h'|h'
  ·exact .inl (by rw[h'.1])
  ·exact .inr (.inr (by rw[h'.1]))
theorem sZ {by_:List (Bytes×TA)} {e:fJ} {C:List TA} (W:lS by_ e C) {part:TA→Option TA} (hp:∀h t,part h=some t→t∈h.l) {t:TA} (ht:GC' C t) (hw:wtL (hdE e t)≤2^26):NT (gives part (hdE e t)).1∧wtT (gives part (hdE e t)).1≤2^27:=by
 have hn:=W.Bw ht;rcases Classical.em (bK∈hdE e t)with h|h
 ·rw[DU W ht h,wN]
  exact⟨.dyn,by decide⟩
 ·have k4:∀h∈hdE e t,h.kind≠4:=fun x hx h4=>h (by rw[←(hn.1 x hx).1.nU h4];exact hx)
  have h1:=Sq hp k4;refine⟨?_,by omega⟩;rcases iR (part:=part) k4 with⟨h2,h3⟩|⟨h2,_⟩
  ·rw[h2]
   have hm:∀x∈(hdE e t).filterMap part,NT x:=fun x hx=>by
    obtain⟨y,hy,he⟩:=List.mem_filterMap.1 hx;exact(hn.1 y hy).1.parts x (hp y x he)
   have h0:(hdE e t).filterMap part≠[]:=fun h0=>by
    obtain⟨z,hz⟩:=List.exists_mem_of_ne_nil _ hn.2;obtain⟨u,hu⟩:=Option.isSome_iff_exists.1 (h3 z hz);have:u∈(hdE e t).filterMap part:=List.mem_filterMap.2 ⟨z,hz,hu⟩;rw[h0]at this;cases this
   show NT (dR _);rw[sV hm];exact HZ (kU hm) (qH hm h0)
  ·rw[h2];exact .dyn
theorem pu_of {by_:List (Bytes×TA)} {e:fJ} {C:List TA} (W:lS by_ e C) {x y:TA} (hx:GC' C x) (hy:GC' C y) (hu:GC' C (uT x y)) (wx:wtL (hdE e x)≤2^26) (wy:wtL (hdE e y)≤2^26) (wu:wtL (hdE e (uT x y))≤2^26) (nm:Bytes):
  PU (gives (dW nm) (hdE e x)).1 (gives (dW nm) (hdE e y)).1 (gives (dW nm) (hdE e (uT x y))).1 (gives jG (hdE e x)).1 (gives jG (hdE e y)).1 (gives jG (hdE e (uT x y))).1
   (gives (dW nm) (hdE e x)).2 (gives (dW nm) (hdE e y)).2 (gives (dW nm) (hdE e (uT x y))).2 (gives jG (hdE e x)).2 (gives jG (hdE e y)).2 (gives jG (hdE e (uT x y))).2:=by
 have f:=ER W hx hy hu (part:=dW nm) fun h t hn he=>hn.parts t (vQ nm h t he)
 have c:=ER W hx hy hu (part:=jG) fun h t hn he=>hn.parts t (vV h t he)
 have ox:=fun part=>Ay (part:=part) W hx
 have oy:=fun part=>Ay (part:=part) W hy
 have n1:=sZ W (vQ nm) hx wx;have n2:=sZ W (vQ nm) hy wy;have n3:=sZ W (vQ nm) hu wu;have n4:=sZ W vV hx wx;have n5:=sZ W vV hy wy;have n6:=sZ W vV hu wu;refine⟨fun h=>?_,fun h1 h2=>?_,⟨zw W hx,zw W hy,zw W hx,zw W hy⟩,⟨n1.1,n2.1,n3.1,n4.1,n5.1,n6.1⟩,⟨n1.2,n2.2,n3.2,n4.2,n5.2,n6.2⟩⟩
 ·have h':(gives jG (hdE e x)).2=1∨(gives jG (hdE e y)).2=1:=by rw[ox,oy]at h⊢;exact h
  rw[f.1 h,c.1 h'];exact⟨rfl,rfl,rfl,rfl,by rw[ox,ox]⟩
 ·have s1:(gives jG (hdE e x)).2≠1:=by rw[ne_eq,ox]at h1⊢;exact h1
  have s2:(gives jG (hdE e y)).2≠1:=by rw[ne_eq,oy]at h2⊢;exact h2
  obtain⟨f1,f2,f3⟩:=f.2 h1 h2;obtain⟨c1,c2,c3⟩:=c.2 s1 s2;exact⟨s1,s2,f1,c1,f2,c2,fun h=>by rw[f3 h];exact⟨rfl,rfl⟩,fun h=>by rw[c3 h];exact⟨rfl,rfl⟩⟩
def LM (o0 o1:aU) (en:fJ):Heap:=[o0,o1,.map (dh en.by_ 0) en.by_.length,.map (gP en.empty 0) en.empty.length,.cells [.map 2,.map 3] 234]
def puH (o0 o1 o2 o3 o4 o5:aU) (f g h i j k:TA):Heap:=[o0,o1,o2,o3,o4,o5,cK f,cK g,cK h,cK i,cK j,cK k]
def puV (p q r s t v:Nat):List (Nat×aA):=[(15,.ptr 6 0),(16,.int .i64 p),(17,.ptr 7 0),(18,.int .i64 q),(19,.ptr 8 0),(20,.int .i64 r),(22,.ptr 9 0),(23,.int .i64 s),(25,.ptr 10 0),(26,.int .i64 t),(28,.ptr 11 0),(29,.int .i64 v)]
def puC :AC:=xH 11 Gi.body
def puQ (L:Lnk):oP:=Sr [.tmp 8] fun r _=>∃x,r=.ret x∧Weak L x (.bool true)
set_option maxHeartbeats 1000000 in
theorem Rj {e:Env} {o0 o1 o2 o3 o4 o5:aU} {f g i j:TA} {p q s t:Nat} (h1:p=1∨q=1) (lp:p=0∨p=1∨p=2) (he:eP e (puV p q 1 s t 1)):
  dV L puC e (puH o0 o1 o2 o3 o4 o5 f g bK i j bK) (puQ L):=by
 refine eY _ _ _ _ ?_;rw[←nW he];rcases lp with rfl|rfl|rfl
 ·have hq:q=1:=h1.elim (fun h=>by cases h) id
  subst hq;conv=>whnf
  exact aH (Weak.refl _)
 ·conv=>whnf
  exact aH (Weak.refl _)
 ·have hq:q=1:=h1.elim (fun h=>by cases h) id
  subst hq;conv=>whnf
  exact aH (Weak.refl _)
set_option maxHeartbeats 1000000 in
theorem Vn {e:Env} {H:Heap} {Q:oP} {p q r s t v:Nat} (lp:(p=0∧(q=0∨q=2))∨(p=2∧(q=0∨q=2))) (he:eP e (puV p q r s t v)):
  dV L (FR 1 puC) e H (tY (fun e' H'=>H'=H∧eP e' (puV p q r s t v)) Q):=by
 refine eY _ _ _ _ ?_;rw[←nW he];rcases lp with⟨rfl,rfl|rfl⟩|⟨rfl,rfl|rfl⟩
 all_goals
  conv=>whnf
  exact⟨rfl,rfl,rfl,rfl,rfl,rfl,rfl,rfl,rfl,rfl,rfl,rfl,rfl,trivial⟩
set_option maxHeartbeats 1000000 in
theorem Vm {e:Env} {H:Heap} {Q:oP} {p q r s t v:Nat} (cr:(p=0∧q=0∧r=0)∨(r=2∧((p=2∧(q=0∨q=2))∨(p=0∧q=2))))
  (cv:(s=0∧t=0∧v=0)∨(v=2∧((s=2∧(t=0∨t=2))∨(s=0∧t=2)))) (he:eP e (puV p q r s t v)):
  dV L (FR 1 (xH 1 puC)) e H (tY (fun e' H'=>H'=H∧eP e' (puV p q r s t v)) Q):=by
 refine eY _ _ _ _ ?_;rw[←nW he];rcases cr with⟨rfl,rfl,rfl⟩|⟨rfl,⟨rfl,rfl|rfl⟩|⟨rfl,rfl⟩⟩
 all_goals
  rcases cv with⟨rfl,rfl,rfl⟩|⟨rfl,⟨rfl,rfl|rfl⟩|⟨rfl,rfl⟩⟩
  all_goals
   conv=>whnf
   exact⟨rfl,rfl,rfl,rfl,rfl,rfl,rfl,rfl,rfl,rfl,rfl,rfl,rfl,trivial⟩
set_option maxHeartbeats 1000000 in
theorem Rn {e:Env} {o0 o1 o2 o3 o4 o5:aU} {f g h i j k:TA} {p q s t:Nat} (he:eP e (puV p q 0 s t 0))
  (jh:∀tk,Pure L 151 [.lst [f.av,g.av] tk] h.av) (sh:Pure L 158 [h.av,h.av] (.bool true)) (jk:∀tk,Pure L 151 [.lst [i.av,j.av] tk] k.av) (sk:Pure L 158 [k.av,k.av] (.bool true)):
  dV L (xH 2 puC) e (puH o0 o1 o2 o3 o4 o5 f g h i j k) (puQ L):=by
 refine eY _ _ _ _ ?_;rw[←nW he];obtain⟨fk,fn,fs,fl⟩:=f;obtain⟨gk,gn,gs,gl⟩:=g;obtain⟨hk,hn,hs,hl⟩:=h;obtain⟨ik,in_,is,il⟩:=i;obtain⟨jk',jn,js,jl⟩:=j;obtain⟨kk,kn,ks,kl⟩:=k;conv=>whnf
 refine(jh _).soft ?_;conv=>whnf
 refine sh.soft ?_;conv=>whnf
 refine(jk _).soft ?_;conv=>whnf
 refine sk.soft ?_;conv=>whnf
 exact aH (Weak.refl _)
set_option maxHeartbeats 1000000 in
theorem Rm {e:Env} {o0 o1 o2 o3 o4 o5:aU} {f g h i j:TA} {p q s t:Nat} (he:eP e (puV p q 0 s t 2))
  (jh:∀tk,Pure L 151 [.lst [f.av,g.av] tk] h.av) (sh:Pure L 158 [h.av,h.av] (.bool true)):
  dV L (xH 2 puC) e (puH o0 o1 o2 o3 o4 o5 f g h i j bK) (puQ L):=by
 refine eY _ _ _ _ ?_;rw[←nW he];obtain⟨fk,fn,fs,fl⟩:=f;obtain⟨gk,gn,gs,gl⟩:=g;obtain⟨hk,hn,hs,hl⟩:=h;conv=>whnf
 refine(jh _).soft ?_;conv=>whnf
 refine sh.soft ?_;conv=>whnf
 exact aH (Weak.refl _)
set_option maxHeartbeats 1000000 in
theorem Rl {e:Env} {o0 o1 o2 o3 o4 o5:aU} {f g i j k:TA} {p q s t:Nat} (he:eP e (puV p q 2 s t 0))
  (jk:∀tk,Pure L 151 [.lst [i.av,j.av] tk] k.av) (sk:Pure L 158 [k.av,k.av] (.bool true)):
  dV L (xH 2 puC) e (puH o0 o1 o2 o3 o4 o5 f g bK i j k) (puQ L):=by
 refine eY _ _ _ _ ?_;rw[←nW he];obtain⟨ik,in_,is,il⟩:=i;obtain⟨jk',jn,js,jl⟩:=j;obtain⟨kk,kn,ks,kl⟩:=k;conv=>whnf
 refine(jk _).soft ?_;conv=>whnf
 refine sk.soft ?_;conv=>whnf
 exact aH (Weak.refl _)
set_option maxHeartbeats 1000000 in
theorem Rk {e:Env} {o0 o1 o2 o3 o4 o5:aU} {f g i j:TA} {p q s t:Nat} (he:eP e (puV p q 2 s t 2)):
  dV L (xH 2 puC) e (puH o0 o1 o2 o3 o4 o5 f g bK i j bK) (puQ L):=by
 refine eY _ _ _ _ ?_;rw[←nW he];conv=>whnf
 exact aH (Weak.refl _)
set_option maxHeartbeats 4000000 in
theorem BX (F:OJ T) (src a b nm:Bytes):Pure T.L 131 [.str src,.str a,.str b,.str nm] (.bool true):=by
 have hA:=Iq F.tozR F.tozP F.Qb;rcases Nat.lt_or_ge 600 src.length with hs|hs
 ·refine Pure.run (fT.at ⟨.str _,.str _,.str _,.str _,trivial⟩) (.bool _) (aI F.Sm (by simp[Gi]) ?_)
  have hM:=M8 F.toEv src [a,b] hs (by simp);conv=>whnf
  refine hA.to ?_;conv=>whnf
  refine(hM.weak (args:=[.str src,.lst [.str a,.str b] _]) ⟨Weak.refl _,Weak.tok _ _,trivial⟩).to ?_;conv=>whnf
  exact aH (Weak.refl _)
 have hM:=UM F.toEv src [a,b] hs (by simp) [];have hD:=tQ src hs;have hT:=fun t h=>yX (l:=[a,b]) (t:=t) h
 have hL:[a,b].all rD=true→∃x y,iK [a,b]=[x,y]:=fun h=>by
  unfold iK;rw[if_pos h];exact⟨_,_,rfl⟩
 generalize gV src=D at hM hD;generalize iK [a,b]=ts at hM hT hL;refine Pure.run (fT.at ⟨.str _,.str _,.str _,.str _,trivial⟩) (.bool _) (w9 F.Sm (by simp[Gi]) ?_);show dV T.L Gi.body (fun i=>[aA.str src,.str a,.str b,.str nm].getD i .undef) [] _;refine p8 (P:=fun e H=>∃en o0 o1 x y,mJ (jA D) en∧ts=[x,y]∧D.length≤8∧jr D≤60∧sumOf ts≤40∧H=LM o0 o1 en∧eP e [(3,.str nm),(9,.ptr 4 0),(11,.lst [x.av,y.av] .none)]) 4 _ _ _ (eY _ _ _ _ ?_) fun e1 H1 ⟨en,o0,o1,x,y,hok,ets,h8,hz,hsz,eH,he⟩=>?_
 ·conv=>whnf
  refine hA.to ?_;conv=>whnf
  refine(hM.EN (args:=[.str src,.lst [.str a,.str b] _]) ⟨Weak.refl _,Weak.tok _ _,trivial⟩).mono fun r H' ⟨en,o0,o1,hok,e2,h⟩=>?_
  subst e2;rcases h with⟨hp,h8,hz,e1⟩|e1
  ·subst e1
   obtain⟨x,y,ets⟩:=hL hp;subst ets;conv=>whnf
   by_cases hsz:sumOf [x,y]≤40
   case neg=>
    rw[decide_eq_false hsz];conv=>whnf
    exact aH (Weak.refl _)
   rw[decide_eq_true hsz];conv=>whnf
   by_cases hn:nm.length≤100
   case neg=>
    rw[show decide (((nm.length:Nat):Int)>100)=true from decide_eq_true (by omega)];conv=>whnf
    exact aH (Weak.refl _)
   rw[show decide (((nm.length:Nat):Int)>100)=false from decide_eq_false (by omega)];conv=>whnf
   exact⟨en,o0,o1,x,y,hok,rfl,h8,hz,hsz,rfl,rfl,rfl,rfl,trivial⟩
  ·subst e1
   conv=>whnf
   exact aH (Weak.refl _)
 subst ets eH;have gx:=hT x (by simp);have gy:=hT y (by simp);have sxy:szT x+szT y≤40:=by simpa[sumOf]using hsz
 have d1:wtT (uT x y)=wtT x+wtT y+32:=by unfold uT;rw[wtT,wtL,wtL,wtL];simp;omega
 have d2:szT (uT x y)=szT x+szT y+1:=by unfold uT;rw[rT,iG,iG];simp[szL,AR]
 obtain⟨C,W,hC,hB⟩:=XA (ts:=[x,y,uT x y]) hD h8 hz (fun t ht=>by
  simp only[List.mem_cons,List.not_mem_nil,or_false]at ht;rcases ht with rfl|rfl|rfl
  ·exact⟨gx.1,by omega,by omega⟩
  ·exact⟨gy.1,by omega,by omega⟩
  ·exact⟨Sn gx.1 gy.1,by omega,by omega⟩) (by simp) hok
 have cx:=hC x (by simp);have cy:=hC y (by simp);have cu:=hC (uT x y) (by simp);have wx:=hB x (by simp);have wy:=hB y (by simp);have wu:=hB (uT x y) (by simp);have pu:=pu_of W cx cy cu wx wy wu nm;have fx:=qP F.tozR W cx wx nm;have fy:=qP F.tozR W cy wy nm;have fu:=qP F.tozR W cu wu nm;obtain⟨k1,kx⟩:=AV F.tozQ W cx wx;obtain⟨k2,ky⟩:=AV F.tozQ W cy wy;obtain⟨k3,ku⟩:=AV F.tozQ W cu wu;generalize gives (dW nm) (hdE en x)=ax at pu fx;generalize gives (dW nm) (hdE en y)=ay at pu fy;generalize gives (dW nm) (hdE en (uT x y))=au at pu fu;generalize gives jG (hdE en x)=bx at pu kx;generalize gives jG (hdE en y)=by' at pu ky;generalize gives jG (hdE en (uT x y))=bu at pu ku;obtain⟨f,p⟩:=ax;obtain⟨g,q⟩:=ay;obtain⟨h,r⟩:=au;obtain⟨i,s⟩:=bx;obtain⟨j,t⟩:=by';obtain⟨k,v⟩:=bu;dsimp only at pu fx fy fu kx ky ku;have lx:=aT 0 x
 have ly:=aT 0 y;have lu:=aT 0 (uT x y);refine p8 (P:=fun e H=>H=LM o0 o1 en ++[.cells [.int .i64 7,.str [],.lst [] .nil,.lst [x.av,y.av] .none] 175,cK f,cK g,cK h,cK i,cK j,cK k]∧eP e [(15,.ptr 6 0),(16,.int .i64 p),(17,.ptr 7 0),(18,.int .i64 q),(19,.ptr 8 0),(20,.int .i64 r),(22,.ptr 9 0),(23,.int .i64 s),(25,.ptr 10 0),(26,.int .i64 t),(28,.ptr 11 0),(29,.int .i64 v)]) 7 _ _ _ (eY _ _ _ _ ?_) fun e2 H2 ⟨eH,he2⟩=>?_
 ·rw[←nW he]
  have hE:∀(J:Heap),K5 en (LM o0 o1 en ++J) 2:=fun J=>⟨rfl,rfl,rfl⟩
  have la:∀z:TA,∀w∈[z.av,aA.str nm],Low 0 w:=fun z=>fT.at ⟨aT 0 z,.str _,trivial⟩
  have lb:∀z:TA,∀w∈[z.av],Low 0 w:=fun z=>fT.at ⟨aT 0 z,trivial⟩
  have lr:∀(z:TA) (n:Nat),Low 0 (.tup [z.av,.int .i64 n]):=fun z n=>.tup _ (fT.at ⟨aT 0 z,.int _ _,trivial⟩)
  have lc:∀(l:List TA) (z:TA) (n:Nat),Low 0 (.tup [.lst (TA.avs l) .none,z.av,.int .i64 n]):=fun l z n=>.tup _ (fT.at ⟨.lst _ _ trivial (aV 0 l),aT 0 z,.int _ _,trivial⟩)
  have hu:Weak T.L (.agg [.int .i64 7,.str [],.lst [] .nil,.lst [x.av,y.av] .none]) (uT x y).av:=Weak.agg ⟨Weak.refl _,Weak.refl _,Weak.tok _ _,Weak.refl _,trivial⟩;have cfx:=fun(J:Heap) (K KP:aA→Heap→Prop) hk=>fx.any (la x) (lr f p) (hE J) (K:=K) (KP:=KP) hk
  have cfy:=fun(J:Heap) (K KP:aA→Heap→Prop) hk=>fy.any (la y) (lr g q) (hE J) (K:=K) (KP:=KP) hk
  have cfu:=fun(J:Heap) (K KP:aA→Heap→Prop) hk=>aD.EN (args:=[.ptr 4 0,.agg [.int .i64 7,.str [],.lst [] .nil,.lst [x.av,y.av] .none],.str nm]) (fu.any (la (uT x y)) (lr h r) (hE J) (K:=K) (KP:=KP) hk) ⟨Weak.refl _,hu,Weak.refl _,trivial⟩
  have ckx:=fun(J:Heap) (K KP:aA→Heap→Prop) hk=>kx.any (lb x) (lc k1 i s) (hE J) (K:=K) (KP:=KP) hk
  have cky:=fun(J:Heap) (K KP:aA→Heap→Prop) hk=>ky.any (lb y) (lc k2 j t) (hE J) (K:=K) (KP:=KP) hk
  have cku:=fun(J:Heap) (K KP:aA→Heap→Prop) hk=>aD.EN (args:=[.ptr 4 0,.agg [.int .i64 7,.str [],.lst [] .nil,.lst [x.av,y.av] .none]]) (ku.any (lb (uT x y)) (lc k3 k v) (hE J) (K:=K) (KP:=KP) hk) ⟨Weak.refl _,hu,trivial⟩
  clear fx fy fu kx ky ku pu hC hB hM hT hL hA hu;generalize TA.avs k1=t1 at ckx;generalize TA.avs k2=t2 at cky;generalize TA.avs k3=t3 at cku;obtain⟨xk,xn,xs,xl⟩:=x;obtain⟨yk,yn,ys,yl⟩:=y;obtain⟨fk,fn,fs,fl⟩:=f;obtain⟨gk,gn,gs,gl⟩:=g;obtain⟨hk,hn,hs,hl⟩:=h;obtain⟨ik,in_,is,il⟩:=i;obtain⟨jk,jn,js,jl⟩:=j;obtain⟨kk,kn,ks,kl⟩:=k;conv=>whnf
  refine⟨Int.le_refl 0,?_⟩;conv=>whnf
  refine⟨rfl,?_⟩;conv=>whnf
  refine cfx _ _ _ ?_;conv=>whnf
  refine⟨by decide,?_⟩;conv=>whnf
  refine⟨rfl,?_⟩;conv=>whnf
  refine cfy _ _ _ ?_;conv=>whnf
  refine cfu _ _ _ ?_;conv=>whnf
  refine⟨Int.le_refl 0,?_⟩;conv=>whnf
  refine⟨rfl,?_⟩;conv=>whnf
  refine ckx _ _ _ ?_;conv=>whnf
  refine⟨by decide,?_⟩;conv=>whnf
  refine⟨rfl,?_⟩;conv=>whnf
  refine cky _ _ _ ?_;conv=>whnf
  refine cku _ _ _ ?_;conv=>whnf
  exact⟨rfl,rfl,rfl,rfl,rfl,rfl,rfl,rfl,rfl,rfl,rfl,rfl,rfl,trivial⟩
 ·subst eH
  obtain⟨nf,ng,nh,ni,nj,nk⟩:=pu.n;obtain⟨wf,wg,wh,wi,wj,wk⟩:=pu.w
  have sA:∀z:TA,NT z→wtT z≤2^27→Pure T.L 158 [z.av,z.av] (.bool true):=fun z nz wz=>by
   have:=M9 F.tovY F.Qa nz nz (by omega) (by omega);rw[beq_self_eq_true]at this;exact this
  have sJ:∀z u w:TA,z=dR [u,w]→NT u→NT w→wtT u≤2^27→wtT w≤2^27→∀tk,Pure T.L 151 [.lst [u.av,w.av] tk] z.av:=fun z u w e nu nw wu ww tk=>by
   rw[e];refine(xq F.tovY [u,w] (Dh (Sn nu.gt nw.gt) ?_)).weak (args:=[.lst [u.av,w.av] tk]) ⟨Weak.tok _ _,trivial⟩;rw[wtT,wtL,wtL,wtL];simp;omega
  have sh:=sA h nh wh;have sk:=sA k nk wk;have jh:=fun e=>sJ h f g e nf ng wf wg
  have jk:=fun e=>sJ k i j e ni nj wi wj
  have D1:=pu.d1;have D2:=pu.d2;obtain⟨lp,lq,ls,lt⟩:=pu.le;clear pu fx fy fu kx ky ku hC hB hM hT hL hA sA sJ;show dV T.L puC e2 (puH _ _ _ _ _ _ f g h i j k) (puQ T.L);rcases Classical.em (p=1∨q=1)with h1|h1
  ·obtain⟨er,ev,eh,ek,_⟩:=D1 h1
   subst er ev eh ek;exact Rj h1 lp he2
  ·rw[not_or]at h1
   obtain⟨s1,t1,er,ev,eh,ek,eh2,ek2⟩:=D2 h1.1 h1.2;have hpq:(p=0∧(q=0∨q=2))∨(p=2∧(q=0∨q=2)):=by omega
   have cr:(p=0∧q=0∧r=0)∨(r=2∧((p=2∧(q=0∨q=2))∨(p=0∧q=2))):=by
    by_cases h0:r=0
    ·exact .inl ⟨(er.1 h0).1,(er.1 h0).2,h0⟩
    ·obtain⟨a,b⟩:=eh2 h0
     have hn:¬(p=0∧q=0):=fun h=>h0 (er.2 h)
     exact .inr ⟨b,by omega⟩
   have cv:(s=0∧t=0∧v=0)∨(v=2∧((s=2∧(t=0∨t=2))∨(s=0∧t=2))):=by
    by_cases h0:v=0
    ·exact .inl ⟨(ev.1 h0).1,(ev.1 h0).2,h0⟩
    ·obtain⟨a,b⟩:=ek2 h0
     have hn:¬(s=0∧t=0):=fun h=>h0 (ev.2 h)
     exact .inr ⟨b,by omega⟩
   refine p8 1 _ _ _ (Vn hpq he2) fun e3 H3 ⟨eH3,he3⟩=>?_
   subst eH3;refine p8 1 _ _ _ (Vm cr cv he3) fun e4 H4 ⟨eH4,he4⟩=>?_
   subst eH4;show dV T.L (xH 2 puC) e4 (puH _ _ _ _ _ _ f g h i j k) (puQ T.L);rcases cr with⟨_,_,hr⟩|⟨hr,_⟩
   ·rcases cv with⟨_,_,hv⟩|⟨hv,_⟩
    ·rw[hr,hv]at he4
     exact Rn he4 (jh (eh hr)) sh (jk (ek hv)) sk
    ·rw[hr,hv]at he4
     rw[(ek2 (by omega)).1];exact Rm he4 (jh (eh hr)) sh
   ·rw[(eh2 (by omega)).1]
    rcases cv with⟨_,_,hv⟩|⟨hv,_⟩
    ·rw[hr,hv]at he4
     exact Rl he4 (jk (ek hv)) sk
    ·rw[hr,hv]at he4
     rw[(ek2 (by omega)).1];exact Rk he4
end Go.Ag

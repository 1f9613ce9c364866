/- Our texts, joined by a program of ours (join.py): part 9 of 9. -/
import Derived.Test.YtlimibffbaihfaaGreatDoorTextH
set_option linter.unusedVariables false
/- Package cupellaw10: PartsNames. -/
namespace Go.Ag
open Go
variable {T : Tab} {L : Lnk}
structure UE (T:Tab):Prop extends D9 T,YU T where
 Mv:T.has 137 vw
 P5:T.has 154 KI
theorem TA.isw (t:TA):∃k n s l,t.av=.agg [.int .i64 k,.str n,.lst s .none,.lst l .none]:=by obtain⟨k,n,s,l⟩:=t;exact⟨k,n,_,_,rfl⟩
def pnC (t0 t1:Nat) (a b:List au):aS:=.cells [.int .i64 5,.str [],.lst a (bA a.length t0),.lst b (bA b.length t1)] 175
def pnH (o0 o1 o2 o3 o4:aS) (a b c d:List au):Heap:=[aZ a.length 10,aZ b.length 175,aZ c.length 10,aZ d.length 175,o0,o1,o2,o3,o4,pnC 0 1 a b,pnC 2 3 c d]
def pnB (i:Nat):Bytes:=[UInt8.ofNat (97+i)]
def pnI (k j:Nat):List Nat:=(List.range j).filter fun i=>decide (i≠k)
def pnA (l:List Nat):List au:=aJ (l.map pnB)
def pnT (xs:List TA) (l:List Nat):List au:=TA.avs (l.map fun i=>xs.getD i dH)
theorem Rl (k j:Nat):pnI k (j+1)=if j≠k then pnI k j ++[j]else pnI k j:=by
 unfold pnI;rw[List.range_succ,List.filter_append]
 by_cases h:j=k
 ·simp[h]
 ·simp[h]
theorem Je (l:List Nat) (j:Nat):pnA (l ++[j])=pnA l ++[.str (pnB j)]:=by simp[pnA,aJ]
theorem Jd (xs:List TA) (l:List Nat) (j:Nat):pnT xs (l ++[j])=pnT xs l ++[(xs.getD j dH).av]:=by
 unfold pnT;rw[List.map_append,iE];rfl
theorem Nt (l:List Nat):dA 1 (pnA l):=fun x hx=>by
 simp only[pnA,aJ,List.mem_map]at hx;obtain⟨s,_,rfl⟩:=hx;exact⟨rfl,rfl⟩
theorem Jc {l:List Nat} (h:l.length≤4):(pnA l).length≤4∧∀xs,(pnT xs l).length≤4:=⟨by simpa[pnA,aJ]using h,fun xs=>by unfold pnT;rw[bH,List.length_map];exact h⟩
theorem Ns (k j:Nat):(pnI k j).length≤j:=by
 unfold pnI;exact Nat.le_trans (List.length_filter_le _ _) (by simp)
def pnL :AC:=Rn 7 vw.body
def pnV (xs:List TA) (k j:Nat):List (Nat×au):=[(7,.ptr 8 0),(9,.lst (TA.avs xs) .none),(12,.ptr 9 0),(13,.ptr 10 0),(14,.int .i64 k),(15,.int .i64 j)]
def pnX (xs:List TA) (k:Nat):List (Nat×au):=[(7,.ptr 8 0),(9,.lst (TA.avs xs) .none),(12,.ptr 9 0),(13,.ptr 10 0)]
theorem Vu :∀{j:Nat},j<4→jG [au.int .u8 (IntKind.u8.wrap (IntKind.i64.wrap (97+(j:Int))))]=some (pnB j)
 |0,_=>rfl
 |1,_=>rfl
 |2,_=>rfl
 |3,_=>rfl
 |j+4,h=>by omega
set_option maxHeartbeats 1000000 in
theorem Vs {e:Env} {o0 o1 o2 o3 o4:aS} {xs:List TA} {k:Nat} (hl:xs.length≤4) (he:fJ e (pnX xs k)) (h14:e 14=.int .i64 k):
  dQ L pnL e (pnH o0 o1 o2 o3 o4 [] [] [] []) (nrmS fun e' H'=>H'=pnH o0 o1 o2 o3 o4 (pnA (List.range xs.length)) (pnT xs (List.range xs.length)) (pnA (pnI k xs.length)) (pnT xs (pnI k xs.length))∧fJ e' (pnX xs k)):=by
 refine jv _ _ _ _ ?_;have hlen:(TA.avs xs).length=xs.length:=bH xs;have key:fJ e ((14,.int .i64 k)::pnX xs k):=⟨h14,he⟩;rw[←yw key];conv=>whnf
 intro I hI hG
 have main:∀(d j:Nat) (e:Env),xs.length-j=d→j≤xs.length→I (fZ e (pnV xs k j)) (pnH o0 o1 o2 o3 o4 (pnA (List.range j)) (pnT xs (List.range j)) (pnA (pnI k j)) (pnT xs (pnI k j))):=by
  intro d
  induction d with
  |zero=>
   intro j e hd hj;have hjl:j=xs.length:=by omega
   subst hjl;apply hI;conv=>whnf
   rw[hlen,bQ (by omega)];conv=>whnf
   exact⟨rfl,rfl,rfl,rfl,rfl,trivial⟩
  |succ d ihd=>
   intro j e hd hj;have hjl:j<xs.length:=by omega
   have hget:=nH hjl;have hnext:=fun e=>ihd (j+1) e (by omega) hjl
   have hgd:xs.getD j dH=xs[j]:=by simp[List.getD_eq_getElem?_getD,List.getElem?_eq_getElem hjl]
   rw[List.range_succ,Je,Jd,hgd,Rl]at hnext;obtain⟨a1,a2⟩:=Jc (l:=List.range j) (by simp;omega);obtain⟨c1,c2⟩:=Jc (l:=pnI k j) (by have:=Ns k j;omega);have a2:=a2 xs;have c2:=c2 xs;have sa:=Nt (List.range j);have sb:dA 4 (pnT xs (List.range j)):=eF _;have sc:=Nt (pnI k j);have sd:dA 4 (pnT xs (pnI k j)):=eF _;have hp:=hnext;rw[apply_ite pnA,apply_ite (pnT xs),Je,Jd,hgd]at hnext;clear hp ihd;generalize pnA (List.range j)=a at hnext a1 sa⊢;generalize pnT xs (List.range j)=b at hnext a2 sb⊢;generalize pnA (pnI k j)=c at hnext c1 sc⊢;generalize pnT xs (pnI k j)=q at hnext c2 sd⊢;obtain⟨vk,vn,vs,vl,hv⟩:=xs[j].isw;rw[hv]at hget hnext;apply hI;conv=>whnf
   rw[hlen,cO hjl];conv=>whnf
   rw[Vu (by omega)];have ss:dA 1 [au.str (pnB j)]:=fun z hz=>by rw[List.mem_singleton]at hz;subst hz;exact⟨rfl,rfl⟩
   have sv:dA 4 [au.agg [.int .i64 vk,.str vn,.lst vs .none,.lst vl .none]]:=fun z hz=>by rw[List.mem_singleton]at hz;subst hz;exact xD rfl
   have add:=add1 (k:=j) (by omega);generalize pnB j=s at hnext ss⊢;conv=>whnf
   refine dx (id:=0) sa ss (by simp;omega) (by simp;omega) (by simp) rfl ?_;conv=>whnf
   refine step_elem (Int.natCast_nonneg _) hget rfl ?_;conv=>whnf
   refine dx (id:=1) sb sv (by simp;omega) (by simp;omega) (by simp) rfl ?_;conv=>whnf
   by_cases hjk:j=k
   ·rw[show(((j:Nat):Int) !=((k:Nat):Int))=false from by simp[hjk]]
    rw[if_neg (by simpa using hjk),if_neg (by simpa using hjk)]at hnext;conv=>whnf
    exact inv_of (pnV xs k (j+1)) ⟨rfl,rfl,rfl,rfl,rfl,add,trivial⟩ (hnext _)
   ·rw[show(((j:Nat):Int) !=((k:Nat):Int))=true from by simp;omega]
    rw[if_pos hjk,if_pos hjk]at hnext;conv=>whnf
    refine dx (id:=2) sc ss (by simp;omega) (by simp;omega) (by simp) rfl ?_;conv=>whnf
    refine step_elem (Int.natCast_nonneg _) hget rfl ?_;conv=>whnf
    refine dx (id:=3) sd sv (by simp;omega) (by simp;omega) (by simp) rfl ?_;conv=>whnf
    exact inv_of (pnV xs k (j+1)) ⟨rfl,rfl,rfl,rfl,rfl,add,trivial⟩ (hnext _)
 exact inv_of (pnV xs k 0) ⟨rfl,rfl,rfl,rfl,rfl,rfl,trivial⟩ (main _ 0 _ rfl (Nat.zero_le _))
def pnU (a b c d:List au):au:=.agg [.int .i64 7,.str [],.lst [] .nil,.lst [.agg [.int .i64 5,.str [],.lst a (bA a.length 0),.lst b (bA b.length 1)],.agg [.int .i64 5,.str [],.lst c (bA c.length 2),.lst d (bA d.length 3)]] .full]
def pnW (a b:List au):au:=.agg [.int .i64 5,.str [],.lst a (bA a.length 0),.lst b (bA b.length 1)]
def pnQ (L:Lnk):mV:=Sl [.tmp 6] fun r _=>∃x,r=.ret x∧Weak L x (.bool true)
set_option maxHeartbeats 1000000 in
theorem Vr {e:Env} {o0 o1 o2 o3 o4:aS} {a b c q:List au} {xs:List TA} {k:Nat} {cs:List Bytes} (he:fJ e (pnX xs k)) (hc:c=aJ cs) (hn:c.length+1=xs.length) (h4:xs.length≤4) (ha:a.length=xs.length)
  (h1:Ba L 173 [.ptr 8 0,pnU a b c q] (pnH o0 o1 o2 o3 o4 a b c q) (.lst c .none)) (h2:Ba L 173 [.ptr 8 0,pnW a b] (pnH o0 o1 o2 o3 o4 a b c q) (.lst a .none)):
  dQ L (Ey 8 vw.body) e (pnH o0 o1 o2 o3 o4 a b c q) (pnQ L):=by
 have hlen:(TA.avs xs).length=xs.length:=bH xs
 have hat:∀i,i<c.length→∃s,c[((i:Nat):Int).toNat]?=some (.str s):=fun i hi=>by
  subst hc;rw[cK]at hi;exact⟨cs[i],Nj hi⟩
 refine jv _ _ _ _ ?_;rw[←yw he];conv=>whnf
 refine h1.to ?_;conv=>whnf
 rw[hlen,show IntKind.i64.wrap (((xs.length:Nat):Int)-1)=((xs.length-1:Nat):Int)from by rw[IntWalk.i64_in _ (by omega)];omega,show(((c.length:Nat):Int) !=((xs.length-1:Nat):Int))=false from by simp;omega];conv=>whnf
 intro I hI hG
 have main:∀(d j:Nat) (e:Env),c.length-j=d→j≤c.length→I (fZ e [(7,.ptr 8 0),(9,.lst (TA.avs xs) .none),(12,.ptr 9 0),(13,.ptr 10 0),(17,.lst c .none),(18,.int .i64 j)]) (pnH o0 o1 o2 o3 o4 a b c q):=by
  intro d
  induction d with
  |zero=>
   intro j e hd hj;apply hI;conv=>whnf
   rw[bQ (by omega)];conv=>whnf
   refine h2.to ?_;conv=>whnf
   rw[hlen,ha,beq_self_eq_true];exact aH (Weak.refl _)
  |succ d ihd=>
   intro j e hd hj;have hjl:j<c.length:=by omega
   obtain⟨s,hs⟩:=hat j hjl;have hnext:=fun e=>ihd (j+1) e (by omega) hjl
   have add:=add1 (k:=j) (by omega);apply hI;conv=>whnf
   rw[cO hjl];conv=>whnf
   refine step_elem (Int.natCast_nonneg _) hs rfl ?_;conv=>whnf
   refine step_elem (Int.natCast_nonneg _) hs rfl ?_;conv=>whnf
   rw[beq_self_eq_true];conv=>whnf
   exact inv_of [(7,.ptr 8 0),(9,.lst (TA.avs xs) .none),(12,.ptr 9 0),(13,.ptr 10 0),(17,.lst c .none),(18,.int .i64 (j+1:Nat))] ⟨rfl,rfl,rfl,rfl,rfl,add,trivial⟩ (hnext _)
 exact inv_of [(7,.ptr 8 0),(9,.lst (TA.avs xs) .none),(12,.ptr 9 0),(13,.ptr 10 0),(17,.lst c .none),(18,.int .i64 (0:Nat))] ⟨rfl,rfl,rfl,rfl,rfl,rfl,trivial⟩ (main _ 0 _ rfl (Nat.zero_le _))
structure PnN (n k:Nat):Prop where
 w:((List.range n).map pnB).Pairwise (· < ·)
 l:((pnI k n).map pnB).Pairwise (· < ·)
 f1:((pnI k n).map pnB).filter (fun x=>decide (x∈(List.range n).map pnB))=(pnI k n).map pnB
 f2:((List.range n).map pnB).filter (fun x=>decide (x∈(pnI k n).map pnB))=(pnI k n).map pnB
 len:(pnI k n).length+1=n
theorem Rj {n k:Nat} (h4:n≤4) (hk:k<n):PnN n k:=by
 have h:∀n∈List.range 5,∀k∈List.range n,((List.range n).map pnB).Pairwise (· < ·)∧((pnI k n).map pnB).Pairwise (· < ·)∧((pnI k n).map pnB).filter (fun x=>decide (x∈(List.range n).map pnB))=(pnI k n).map pnB∧((List.range n).map pnB).filter (fun x=>decide (x∈(pnI k n).map pnB))=(pnI k n).map pnB∧(pnI k n).length+1=n:=by decide
 obtain⟨a,b,c,d,e⟩:=h n (by simp;omega) k (by simpa using hk);exact⟨a,b,c,d,e⟩
theorem pn_g {i:Nat} (h:i<4):jM (pnB i):=by
 rcases(by omega:i=0∨i=1∨i=2∨i=3)with rfl|rfl|rfl|rfl<;>exact⟨by decide,by decide,by decide,by decide,by decide⟩
theorem U3 {l m:List TA} (h:l.Sublist m):szL l≤szL m∧wtL l≤wtL m:=by
 induction h with
 |slnil=>exact⟨Nat.le_refl _,Nat.le_refl _⟩
 |cons a _ ih=>rw[fG,wtL];omega
 |cons_cons a _ ih=>rw[fG,fG,wtL,wtL];omega
theorem Rk (xs:List TA):(List.range xs.length).map (fun i=>xs.getD i dH)=xs:=by
 apply List.ext_getElem
 ·simp
 ·intro i h1 h2
  simp[List.getD_eq_getElem?_getD,List.getElem?_eq_getElem h2]
theorem Vt (xs:List TA) (k:Nat):((pnI k xs.length).map fun i=>xs.getD i dH).Sublist xs:=by
 have h:(pnI k xs.length).Sublist (List.range xs.length):=List.filter_sublist;have h2:=h.map fun i=>xs.getD i dH
 rw[Rk]at h2;exact h2
theorem Xx {ids:List Nat} {l:List TA} (hs:(ids.map pnB).Pairwise (· < ·)) (hl:ids.length=l.length) (hi:∀i∈ids,i<4) (h:∀t∈l,GT t):GT (eX (ids.map pnB) l):=
 .rcd _ _ hs (by rw[List.length_map];exact hl) (fun n hn=>by
  obtain⟨i,hm,rfl⟩:=List.mem_map.1 hn
  exact pn_g (hi i hm)) h
theorem Xw {ids:List Nat} {l:List TA} (hn:ids.length≤4):wtT (eX (ids.map pnB) l)≤80+wtL l∧szT (eX (ids.map pnB) l)=1+szL l:=by
 refine⟨?_,by unfold eX;rw[pO];omega⟩;unfold eX;rw[wtT,List.map_map]
 have:∀m:List Nat,((m.map ((fun n=>n.length+4)∘pnB)).sum)=5*m.length:=fun m=>by
  induction m with
  |nil=>rfl
  |cons a m ih=>rw[List.map_cons,List.sum_cons,ih,List.length_cons];simp[pnB];omega
 rw[this];simp;omega
theorem QT (l:List TA):szL l=sumOf l:=by
 unfold sumOf
 induction l with
 |nil=>rfl
 |cons a l ih=>rw[fG,ih,List.map_cons,List.sum_cons]
theorem wt_le (l:List TA) (h:∀t∈l,wtT t≤410000) (h4:l.length≤4):wtL l≤4*(410000+8):=Nat.le_trans (QI h) (Nat.mul_le_mul_right _ h4)
theorem X7 {e:Env} {o0 o1 o2 o3 o4:aS} {xs:List TA} {a:Nat} {Q:mV} (ha:a<256) (hx:0<xs.length) (hx4:xs.length≤4) (he:fJ e [(2,.int .u8 a),(7,.ptr 8 0),(9,.lst (TA.avs xs) .none)]):
  dQ L (JQ 2 (Ey 5 vw.body)) e [.dead,.dead,.dead,.dead,o0,o1,o2,o3,o4] (sI (fun e' H'=>H'=pnH o0 o1 o2 o3 o4 [] [] [] []∧fJ e' (pnX xs (a%xs.length))∧e' 14=.int .i64 ((a%xs.length:Nat):Int)) Q):=by
 have hlen:(TA.avs xs).length=xs.length:=bH xs;refine jv _ _ _ _ ?_;rw[←yw he];conv=>whnf
 refine iB (v:=.int .i64 ((a%xs.length:Nat):Int)) ?_ ?_
 ·show AU BinOp.rem (.int .i64 (IntKind.i64.wrap a)) (.int .i64 ((TA.avs xs).length:Nat))=_
  rw[hlen,IntWalk.i64_in _ (by omega)];show(if((xs.length:Nat):Int)=0 then none else some (au.int .i64 (Int.tmod a xs.length)))=_;rw[if_neg (by omega),Int.tmod_eq_emod_of_nonneg (by omega),←Int.natCast_emod]
 conv=>whnf
 exact⟨rfl,⟨rfl,rfl,rfl,rfl,trivial⟩,rfl⟩
theorem LV {l:List Bytes} {t:TA} (h:t∈gJ l):GT t∧wtT t≤410000:=by
 unfold gJ at h;split at h
 ·rename_i ha
  obtain⟨s,hs,rfl⟩:=List.mem_map.1 h;have h1:=List.all_eq_true.1 ha s hs;unfold oL at h1;rw[Bool.and_eq_true,decide_eq_true_eq]at h1;have h2:=BU s (by omega) h1.2;have:(s.length+82)*(s.length+1)≤682*601:=Nat.mul_le_mul (by omega) (by omega);exact⟨h2.1,by omega⟩
 ·cases h
theorem LU {l:List Bytes} (h:l.all oL=true):(gJ l).length=l.length:=by unfold gJ;rw[if_pos h,List.length_map]
set_option maxHeartbeats 1000000 in
theorem Bn (F:UE T) (src:Bytes) (l:List Bytes) (a:Nat) (ha:a<256):Pure T.L 137 [.str src,.lst (aJ l) .none,.int .u8 a] (.bool true):=by
 have hA:=Ib F.towE F.tozf F.P5;have hsl:(aJ l).length=l.length:=cK l;have VF:∀x∈[au.str src,.lst (aJ l) .none,.int .u8 a],Low 0 x:=gD.at ⟨.str _,.lst _ _ trivial (pQ 0 l),.int _ _,trivial⟩
 by_cases h4:4<l.length
 ·refine Pure.run VF (.bool _) (aG F.Mv (by simp[vw]) ?_)
  conv=>whnf
  refine hA.to ?_;conv=>whnf
  rw[hsl,show decide (((l.length:Nat):Int)>4)=true from decide_eq_true (by omega)];conv=>whnf
  exact aH (Weak.refl _)
 by_cases h0:l.length=0
 ·refine Pure.run VF (.bool _) (aG F.Mv (by simp[vw]) ?_)
  conv=>whnf
  refine hA.to ?_;conv=>whnf
  rw[hsl,h0];conv=>whnf
  rw[hsl,h0];conv=>whnf
  exact aH (Weak.refl _)
 have hg4:decide (((l.length:Nat):Int)>4)=false:=decide_eq_false (by omega);have hg0:(((l.length:Nat):Int)==0)=false:=by rw[beq_eq_false_iff_ne];omega
 rcases Nat.lt_or_ge 600 src.length with hs|hs
 ·refine Pure.run VF (.bool _) (aG F.Mv (by simp[vw]) ?_)
  have hM:=M4 F.toD9 src l hs (by omega);conv=>whnf
  refine hA.to ?_;conv=>whnf
  rw[hsl,hg4];conv=>whnf
  rw[hsl,hg0];conv=>whnf
  refine hM.to ?_;conv=>whnf
  exact aH (Weak.refl _)
 have hM:=UN F.toD9 src l hs (by omega) [.dead,.dead,.dead,.dead];have hD:=sD src hs;have hT:=fun t h=>LV (l:=l) (t:=t) h
 have hL:l.all oL=true→(gJ l).length=l.length:=LU;generalize gN src=D at hM hD;generalize gJ l=xs at hM hT hL;refine Pure.IZ 4 VF (.bool _) (wD F.Mv (by simp[vw]) ?_);show dQ T.L vw.body (fun i=>[au.str src,.lst (aJ l) .none,.int .u8 a].getD i .undef) [.dead,.dead,.dead,.dead] _;refine vH (P:=fun e H=>∃en o0 o1,l7 (jh D) en∧xs.length=l.length∧D.length≤8∧jd D≤60∧sumOf xs≤40∧H=[.dead,.dead,.dead,.dead,o0,o1,.map (bZ en.by_ 0) en.by_.length,.map (gH en.empty 0) en.empty.length,.cells [.map 6,.map 7] 234]∧fJ e [(2,.int .u8 a),(7,.ptr 8 0),(9,.lst (TA.avs xs) .none)]) 5 _ _ _ (jv _ _ _ _ ?_) fun e1 H1 ⟨en,o0,o1,hok,ets,h8,hz,hsz,eH,he⟩=>?_
 ·conv=>whnf
  refine hA.to ?_;conv=>whnf
  rw[hsl,hg4];conv=>whnf
  rw[hsl,hg0];conv=>whnf
  refine hM.mono (Q':=dJ _ _) fun r H' ⟨en,o0,o1,hok,e2,h⟩=>?_
  subst e2;rcases h with⟨hp,h8,hz,e1⟩|e1
  ·subst e1
   have ets:=hL hp;conv=>whnf
   by_cases hsz:sumOf xs≤40
   case neg=>
    rw[decide_eq_false hsz];conv=>whnf
    exact aH (Weak.refl _)
   rw[decide_eq_true hsz];conv=>whnf
   exact⟨en,o0,o1,hok,ets,h8,hz,hsz,rfl,rfl,rfl,rfl,trivial⟩
  ·subst e1
   conv=>whnf
   exact aH (Weak.refl _)
 subst eH;have hx0:0<xs.length:=by omega
 have hx4:xs.length≤4:=by omega
 obtain⟨k,hk⟩:∃k,k=a%xs.length:=⟨_,rfl⟩;have hkl:k<xs.length:=by rw[hk];exact Nat.mod_lt _ hx0
 have N:=Rj hx4 hkl;have hsub:=Vt xs k;have hall:=Rk xs;obtain⟨l1,e1⟩:∃l1,l1=(pnI k xs.length).map fun i=>xs.getD i dH:=⟨_,rfl⟩
 have hl1:l1.length=(pnI k xs.length).length:=by rw[e1,List.length_map]
 rw[←e1]at hsub;have q1:=U3 hsub;have q2:szL xs≤40:=by rw[QT];exact hsz
 have q3:=wt_le xs (fun t ht=>(hT t ht).2) hx4;have r1:=Xw (ids:=List.range xs.length) (l:=xs) (by simpa using hx4);have r2:=Xw (ids:=pnI k xs.length) (l:=l1) (by have:=Ns k xs.length;omega);have gW:GT (eX ((List.range xs.length).map pnB) xs):=Xx N.w (by simp) (fun i hi=>by have:=List.mem_range.1 hi;omega) fun t ht=>(hT t ht).1
 have gL:GT (eX ((pnI k xs.length).map pnB) l1):=Xx N.l hl1.symm (fun i hi=>by
  have:=List.mem_range.1 (List.mem_filter.1 hi).1;omega) fun t ht=>(hT t (hsub.subset ht)).1
 have d1:wtT (uT (eX ((List.range xs.length).map pnB) xs) (eX ((pnI k xs.length).map pnB) l1))=wtT (eX ((List.range xs.length).map pnB) xs)+wtT (eX ((pnI k xs.length).map pnB) l1)+32:=by unfold uT;rw[wtT,wtL,wtL,wtL];simp;omega
 have d2:szT (uT (eX ((List.range xs.length).map pnB) xs) (eX ((pnI k xs.length).map pnB) l1))=szT (eX ((List.range xs.length).map pnB) xs)+szT (eX ((pnI k xs.length).map pnB) l1)+1:=by unfold uT;rw[pO,fG,fG];simp[szL,Ab]
 obtain⟨C,W,hC,hB⟩:=XH (ts:=[eX ((List.range xs.length).map pnB) xs,eX ((pnI k xs.length).map pnB) l1,uT (eX ((List.range xs.length).map pnB) xs) (eX ((pnI k xs.length).map pnB) l1)]) hD h8 hz (fun t ht=>by
  simp only[List.mem_cons,List.not_mem_nil,or_false]at ht;rcases ht with rfl|rfl|rfl
  ·exact⟨gW,by omega,by omega⟩
  ·exact⟨gL,by omega,by omega⟩
  ·exact⟨XB gW gL,by omega,by omega⟩) (by simp) hok
 have cW:=hC _ (List.mem_cons_self);have cL:=hC _ (List.mem_cons_of_mem _ (List.mem_cons_self));have cU:=hC _ (List.mem_cons_of_mem _ (List.mem_cons_of_mem _ (List.mem_cons_self)));have fU:=Bc F.toD8 W cU (hB _ (by simp));have fW:=Bc F.toD8 W cW (hB _ (by simp));rw[ME W cW cL cU N.w (by simp) N.l (by rw[List.length_map];exact hl1.symm) N.f1 N.f2]at fU;rw[MF W cW N.w (by simp)]at fW;have hE:∀{x0 x1 x2 x3:aS} {J:Heap},zm en ([x0,x1,x2,x3,o0,o1,.map (bZ en.by_ 0) en.by_.length,.map (gH en.empty 0) en.empty.length,.cells [.map 6,.map 7] 234] ++J) 6:=fun{_ _ _ _ _}=>⟨rfl,rfl,rfl⟩
 refine vH 2 _ _ _ (X7 ha hx0 hx4 he) fun e2 H2 ⟨eH2,he2,h14⟩=>?_
 subst eH2;rw[←hk]at he2 h14;show dQ T.L (.seq pnL (Ey 8 vw.body)) e2 _ (pnQ T.L);refine U7 (Vs hx4 he2 h14) fun e3 H3 ⟨eH3,he3⟩=>?_
 subst eH3;have ea:pnT xs (List.range xs.length)=TA.avs xs:=by unfold pnT;rw[hall]
 have eb:pnT xs (pnI k xs.length)=TA.avs l1:=by unfold pnT;rw[e1]
 rw[ea,eb];have wW:Weak T.L (pnW (pnA (List.range xs.length)) (TA.avs xs)) (eX ((List.range xs.length).map pnB) xs).av:=Weak.agg ⟨Weak.refl _,Weak.refl _,Weak.tok _ _,Weak.tok _ _,trivial⟩
 have wU:Weak T.L (pnU (pnA (List.range xs.length)) (TA.avs xs) (pnA (pnI k xs.length)) (TA.avs l1)) (uT (eX ((List.range xs.length).map pnB) xs) (eX ((pnI k xs.length).map pnB) l1)).av:=by
  refine Weak.agg ⟨Weak.refl _,Weak.refl _,Weak.tok _ _,Weak.lstW rfl (fun n hn y hy=>?_) ⟨Weak.refl _,Weak.refl _,Weak.tok _ _,Weak.tok _ _,Weak.refl _,Weak.refl _,Weak.tok _ _,Weak.tok _ _,trivial⟩,trivial⟩;have h1:4=n:=hn _ (List.mem_cons_self);subst h1;simp only[TA.avs,List.mem_cons,List.not_mem_nil,or_false]at hy;rcases hy with rfl|rfl<;>rfl
 exact Vr he3 rfl (by show(aJ ((pnI k xs.length).map pnB)).length+1=_;rw[cK,List.length_map];exact N.len) hx4 (by show(aJ ((List.range xs.length).map pnB)).length=_;rw[cK,List.length_map,List.length_range])
  ((fU.Xu (dF (aT 0 _)) (.lst _ _ trivial (pQ 0 _)) hE).weak ⟨Weak.refl _,wU,trivial⟩) ((fW.Xu (dF (aT 0 _)) (.lst _ _ trivial (pQ 0 _)) hE).weak ⟨Weak.refl _,wW,trivial⟩)
end Go.Ag
/- Package cupellaw10: PartsShapes. -/
namespace Go.Ag
open Go
variable {T : Tab} {L : Lnk}
end Go.Ag
/- Package types: the library's CompactFunc of keyed types, walked. -/
namespace Go.Ag
open Go
variable {T : Tab} {L : Lnk}
def zkv :au:=.agg [.int .i64 0,.str [],.lst [] .nil,.lst [] .nil,.str []]
structure DStep (xs A:List (TA×Bytes)) (p m:Nat):Prop where
 len:A.length=xs.length
 front:A.take m=gB (xs.take p)
 L8:m=(gB (xs.take p)).length
 pos:1≤p
 lt:m<p
 back:A.drop (p-1)=xs.drop (p-1)
theorem DStep.at {xs A:List (TA×Bytes)} {p m:Nat} (h:DStep xs A p m) {j:Nat} (h1:p-1≤j):A[j]?=xs[j]?:=by
 have e1:A[j]?=(A.drop (p-1))[j-(p-1)]?:=by rw[List.getElem?_drop];congr 1;omega
 have e2:xs[j]?=(xs.drop (p-1))[j-(p-1)]?:=by rw[List.getElem?_drop];congr 1;omega
 rw[e1,e2,h.back]
theorem DStep.skip {xs A:List (TA×Bytes)} {p m:Nat} (h:DStep xs A p m) (hp:p<xs.length) (he:(xs[p].2==(xs[p-1]'(by omega)).2)=true):DStep xs A (p+1) m:=by
 have h1:=wm xs p h.pos hp;rw[if_pos he,List.append_nil]at h1;refine⟨h.len,by rw[h1];exact h.front,by rw[h1];exact h.L8,by omega,by have:=h.lt;omega,?_⟩;have e1:A.drop p=(A.drop (p-1)).drop 1:=by rw[List.drop_drop];congr 1;have:=h.pos;omega
 have e2:xs.drop p=(xs.drop (p-1)).drop 1:=by rw[List.drop_drop];congr 1;have:=h.pos;omega
 show A.drop p=xs.drop p;rw[e1,e2,h.back]
theorem DStep.take {xs A:List (TA×Bytes)} {p m:Nat} (h:DStep xs A p m) (hp:p<xs.length) (he:(xs[p].2==(xs[p-1]'(by omega)).2)=false):DStep xs (A.take m ++[xs[p]] ++A.drop (m+1)) (p+1) (m+1):=by
 have h1:=wm xs p h.pos hp;rw[if_neg (by rw[he];simp)]at h1;have hlt:=h.lt;have hlen:=h.len;have hml:(A.take m).length=m:=by rw[List.length_take];omega
 have e0:(A.take m ++[xs[p]]).length=m+1:=by simp[hml]
 refine⟨by simp;omega,?_,by rw[h1,List.length_append,←h.L8];rfl,by omega,by omega,?_⟩
 ·rw[List.take_append_of_le_length (by omega),List.take_of_length_le (by omega),h1,h.front]
 ·show List.drop p _=List.drop p xs
  rw[List.drop_append,List.drop_of_length_le (by omega:(A.take m ++[xs[p]]).length≤p),List.nil_append,e0,List.drop_drop];have e1:A.drop p=(A.drop (p-1)).drop 1:=by rw[List.drop_drop];congr 1;have:=h.pos;omega
  have e2:xs.drop p=(xs.drop (p-1)).drop 1:=by rw[List.drop_drop];congr 1;have:=h.pos;omega
  rw[show m+1+(p-(m+1))=p from by omega,e1,e2,h.back]
theorem VG (n:Nat):Low n zkv:=.agg _ (gD.at ⟨.int _ _,.str _,.lst _ _ trivial (by simp),.lst _ _ trivial (by simp),.str _,trivial⟩)
theorem X8 (u:TA×Bytes):okB 5 (au.agg (kv u).cells)=true:=by
 obtain⟨⟨k,nm,ns,l⟩,s⟩:=u;rfl
theorem YE {xs A:List (TA×Bytes)} {n t m r:Nat} (hr:m+(r+1)=n) (hA:A.length=n) (hf:A.take m=gB xs):
  DR 5 (.agg [.int .i64 0,.str [],.lst [] .nil,.lst [] .nil,.str []]) [.arr n (kvs A) t] (.vec 0 n 5 (0+m) (r+1))=some [.arr n (kvs (gB xs) ++List.replicate (r+1) zkv) t]:=by
 rw[Nat.zero_add,DR];simp only[List.getElem?_cons_zero];rw[if_pos ⟨trivial,trivial,by rw[jF];omega,by rw[List.all_eq_true];exact fun y hy=>by simpa using uS A y hy⟩];have e1:(kvs A).take m=kvs (gB xs):=by rw[←hf];simp[kvs,List.map_take]
 have e2:(kvs A).drop (m+(r+1))=[]:=List.drop_of_length_le (by rw[jF];omega);rw[e1,e2,List.append_nil];rfl
theorem sub1 {k:Nat} (h1:1≤k) (h:k<9223372036854775808):IntKind.i64.wrap ((k:Int)-1)=((k-1:Nat):Int):=by
 rw[IntWalk.i64_in _ (by omega)];omega
theorem HV (F:zo T) (xs:List (TA×Bytes)) (n t:Nat) (hn:n=xs.length) (hne:xs≠[]) (hl:n≤2^40):
  aC T.L 255 [.vec 0 n 5 0 n,.fn (.func 256) [] []] [.arr n (kvs xs) t] fun r H'=>r=.ret (.vec 0 n 5 0 (gB xs).length)∧∃rest J:List _,(∀x∈rest,Low 0 x∧x.cells.length=5)∧(gB xs).length+rest.length=n∧H'=[.arr n (kvs (gB xs) ++rest) t] ++J:=by
 have heq:=SI F.Hg;have hpos:0<xs.length:=List.length_pos_iff.2 hne;have hk5:=uS xs;refine aG F.Si (by simp[Ol]) ?_;conv=>whnf
 have e2:((n:Int)<2)=(n<2):=by apply propext;omega
 cases hn2:decide ((n:Int)<2)
 ·have hn2':2≤n:=by simp at hn2;omega
  conv=>whnf
  intro I hI hG
  have key:∀(d i:Nat) (e:Env),n-i=d→1≤i→i≤n→gB (xs.take i)=xs.take i→I (fZ e [(0,.vec 0 n 5 0 n),(1,.fn (.func 256) [] []),(5,.int .i64 i)]) [.arr n (kvs xs) t]:=by
   intro d
   induction d with
   |zero=>
    intro i e hd h1 hi Mt;apply hI;conv=>whnf
    rw[bQ (by omega)];conv=>whnf
    have:xs.take i=xs:=List.take_of_length_le (by omega);rw[this]at Mt;refine⟨?_,[],[],(by simp),?_,?_⟩
    ·rw[Mt,←hn];rfl
    ·rw[Mt,hn];rfl
    ·rw[Mt,List.append_nil,List.append_nil]
   |succ d ihd=>
    intro i e hd h1 hi Mt;have hin:i<n:=by omega
    have hix:i<xs.length:=by omega
    apply hI;conv=>whnf
    rw[cO hin];conv=>whnf
    refine⟨⟨Int.natCast_nonneg _,by omega,rfl⟩,?_⟩;conv=>whnf
    rw[sub1 h1 (by omega)];refine⟨⟨Int.natCast_nonneg _,by omega,rfl⟩,?_⟩;conv=>whnf
    have ha:(0+((i:Nat):Int).toNat)*5=i*5:=by simp
    have hb:(0+((i-1:Nat):Int).toNat)*5=(i-1)*5:=by simp
    rw[ha,hb];have hgi:(kvs xs)[i]?=some (kv xs[i]):=by simp[kvs,List.getElem?_map,List.getElem?_eq_getElem hix]
    have hgj:(kvs xs)[i-1]?=some (kv (xs[i-1]'(by omega))):=by simp[kvs,List.getElem?_map,List.getElem?_eq_getElem (show i-1<xs.length by omega)]
    have hsn:(xs[i].2==(xs[i-1]'(by omega)).2)=false→gB (xs.take (i+1))=xs.take (i+1):=fun he=>by
     have h2:=wm xs i h1 hix;rw[if_neg (by rw[he];simp),Mt]at h2;rw[h2,List.take_succ_eq_append_getElem hix]
    have hq:=heq xs[i] (xs[i-1]'(by omega))
    have hsk:(xs[i].2==(xs[i-1]'(by omega)).2)=true→DStep xs xs (i+1) i:=fun he=>by
     have h2:=wm xs i h1 hix;rw[if_pos he,List.append_nil,Mt]at h2;exact⟨rfl,h2.symm,by rw[h2,List.length_take];omega,by omega,by omega,rfl⟩
    generalize xs[i]=u at hgi hsn hq hsk;generalize xs[i-1]'(by omega)=w at hgj hsn hq hsk;refine lW (vR rfl hk5 hgi) ?_;conv=>whnf
    refine lW (vR rfl hk5 hgj) ?_;conv=>whnf
    refine hq.to ?_;conv=>whnf
    have hi1:i+1<9223372036854775808:=by omega
    cases huw:(u.2==w.2)
    ·conv=>whnf
     exact hG.keep [(0,.vec 0 n 5 0 n),(1,.fn (.func 256) [] []),(5,.int .i64 (i+1:Nat))] [.arr n (kvs xs) t] (Nat.le_refl 1) rfl ⟨rfl,rfl,add1 hi1,trivial⟩
      ⟨.vec _ _ _ _ _ (by decide:0<1),.fn _ _ _ fP fP,.int _ _,trivial⟩ ⟨kM 1 xs,trivial⟩ (ihd (i+1) _ (by omega) (by omega) (by omega) (hsn huw))
    ·have hst:=hsk huw
     clear hsk hsn hq ihd hgi hgj ha hb huw;conv=>whnf
     refine⟨⟨by omega,by omega,by omega,rfl⟩,?_⟩;conv=>whnf
     rw[Int.toNat_natCast];intro J hJ hGJ
     have keyI:∀(d k m:Nat) (A:List (TA×Bytes)) (e:Env),n-(i+k)=d→1≤k→i+k≤n→DStep xs A (i+k) m→J (fZ e [(0,.vec 0 n 5 0 n),(1,.fn (.func 256) [] []),(5,.int .i64 m),(6,.vec 0 n 5 i (n-i)),(7,.int .i64 k)]) [.arr n (kvs A) t]:=by
      intro d
      induction d with
      |zero=>
       intro k m A e hd hk1 hk hst;apply hJ;conv=>whnf
       rw[bQ (by omega)];conv=>whnf
       have hmn:m<n:=by have:=hst.lt;omega
       obtain⟨r,hr⟩:∃r,n-m=r+1:=⟨n-m-1,by omega⟩;refine⟨⟨by omega,by omega,by omega,rfl⟩,?_⟩;conv=>whnf
       rw[Int.toNat_natCast,hr];conv=>whnf
       have hend:i+k=n:=by omega
       rw[hend]at hst;have hxt:xs.take n=xs:=List.take_of_length_le (by omega);have hfr:=hst.front;have hm:=hst.L8;rw[hxt]at hfr hm;rw[YE (by omega) (by rw[hst.len];omega) hfr];conv=>whnf
       refine⟨⟨by omega,by omega,by omega,rfl⟩,?_⟩;conv=>whnf
       refine⟨by rw[←hm];rfl,List.replicate (r+1) zkv,[],fun x hx=>?_,by rw[List.length_replicate,←hm];omega,by rw[List.append_nil]⟩;rw[List.eq_of_mem_replicate hx];exact⟨VG 0,rfl⟩
      |succ d ihd=>
       intro k m A e hd hk1 hk hst;apply hJ;conv=>whnf
       rw[cO (by omega)];conv=>whnf
       have hpx:i+k<xs.length:=by omega
       have hA5:=uS A;have hAl:=hst.len;have hlt:=hst.lt;refine⟨⟨Int.natCast_nonneg _,by omega,rfl⟩,?_⟩;conv=>whnf
       rw[sub1 hk1 (by omega)];refine⟨⟨Int.natCast_nonneg _,by omega,rfl⟩,?_⟩;conv=>whnf
       have ha:(i+((k:Nat):Int).toNat)*5=(i+k)*5:=by simp
       have hb:(i+((k-1:Nat):Int).toNat)*5=(i+k-1)*5:=by rw[Int.toNat_natCast];congr 1;omega
       rw[ha,hb];have hgi:(kvs A)[i+k]?=some (kv xs[i+k]):=by simp[kvs,List.getElem?_map,hst.at (j:=i+k) (by omega),List.getElem?_eq_getElem hpx]
       have hgj:(kvs A)[i+k-1]?=some (kv (xs[i+k-1]'(by omega))):=by simp[kvs,List.getElem?_map,hst.at (j:=i+k-1) (by omega),List.getElem?_eq_getElem (show i+k-1<xs.length by omega)]
       have hq:=heq xs[i+k] (xs[i+k-1]'(by omega));have AJ:=hst.skip hpx;have htake:=hst.take hpx;generalize xs[i+k]=u at hgi hq AJ htake;generalize xs[i+k-1]'(by omega)=w at hgj hq AJ htake;refine lW (vR rfl hA5 hgi) ?_;conv=>whnf
       refine lW (vR rfl hA5 hgj) ?_;conv=>whnf
       refine hq.to ?_;conv=>whnf
       have hk1':k+1<9223372036854775808:=by omega
       have hm1':m+1<9223372036854775808:=by omega
       cases huw:(u.2==w.2)
       ·have hst':=htake huw
        conv=>whnf
        refine⟨⟨Int.natCast_nonneg _,by omega,rfl⟩,?_⟩;conv=>whnf
        rw[ha];refine lW (vR rfl hA5 hgi) ?_;conv=>whnf
        refine⟨⟨Int.natCast_nonneg _,by omega,rfl⟩,?_⟩;conv=>whnf
        rw[X8 u,show(0+((m:Nat):Int).toNat)*5=m*5 from by simp,QW (H:=[.arr n (kvs A) t]) (x:=.agg (kv u).cells) (i:=m) rfl hA5 (Fg u) (by rw[jF];omega)];rw[show(kvs A).take m ++[au.agg (kv u).cells] ++(kvs A).drop (m+1)=kvs (A.take m ++[u] ++A.drop (m+1))from by simp[kvs,List.map_take,List.map_drop];rfl];generalize A.take m ++[u] ++A.drop (m+1)=A' at hst'⊢;conv=>whnf
        exact hGJ.keep [(0,.vec 0 n 5 0 n),(1,.fn (.func 256) [] []),(5,.int .i64 (m+1:Nat)),(6,.vec 0 n 5 i (n-i)),(7,.int .i64 (k+1:Nat))] [.arr n (kvs A') t] (Nat.le_refl 1) rfl ⟨rfl,rfl,add1 hm1',rfl,add1 hk1',trivial⟩
         ⟨.vec _ _ _ _ _ (by decide:0<1),.fn _ _ _ fP fP,.int _ _,.vec _ _ _ _ _ (by decide:0<1),.int _ _,trivial⟩ ⟨kM 1 A',trivial⟩ (ihd (k+1) (m+1) A' _ (by omega) (by omega) (by omega) hst')
       ·have hst':=AJ huw
        conv=>whnf
        exact hGJ.keep [(0,.vec 0 n 5 0 n),(1,.fn (.func 256) [] []),(5,.int .i64 m),(6,.vec 0 n 5 i (n-i)),(7,.int .i64 (k+1:Nat))] [.arr n (kvs A) t] (Nat.le_refl 1) rfl ⟨rfl,rfl,rfl,rfl,add1 hk1',trivial⟩
         ⟨.vec _ _ _ _ _ (by decide:0<1),.fn _ _ _ fP fP,.int _ _,.vec _ _ _ _ _ (by decide:0<1),.int _ _,trivial⟩ ⟨kM 1 A,trivial⟩ (ihd (k+1) m A _ (by omega) (by omega) (by omega) hst')
     exact inv_of [(0,.vec 0 n 5 0 n),(1,.fn (.func 256) [] []),(5,.int .i64 i),(6,.vec 0 n 5 i (n-i)),(7,.int .i64 (1:Nat))] ⟨rfl,rfl,rfl,by rw[Nat.zero_add]<;>rfl,rfl,trivial⟩ (keyI _ 1 i xs _ rfl (Nat.le_refl 1) (by omega) hst)
  exact inv_of [(0,.vec 0 n 5 0 n),(1,.fn (.func 256) [] []),(5,.int .i64 (1:Nat))] ⟨rfl,rfl,rfl,trivial⟩ (key _ 1 _ rfl (Nat.le_refl 1) (by omega) (by cases xs with
   |nil=>cases hne rfl
   |cons x l=>rfl))
 ·have hn1:n=1:=by simp at hn2;omega
  conv=>whnf
  obtain⟨x,rfl⟩:∃x,xs=[x]:=List.length_eq_one_iff.1 (by omega);refine⟨by rw[hn1];rfl,[],[],by simp,by rw[hn1];rfl,by rw[List.append_nil,List.append_nil];rfl⟩
theorem El (F:zo T) (xs:List (TA×Bytes)) (n t:Nat) (hn:n=xs.length) (hne:xs≠[]) (hl:n≤2^40):
  aC T.L 255 [.vec 0 n 5 0 n,.fn (.func 256) [] []] [.arr n (kvs xs) t] fun r H'=>r=.ret (.vec 0 n 5 0 (gB xs).length)∧∃rest:List _,(∀x∈rest,Low 0 x∧x.cells.length=5)∧(gB xs).length+rest.length=n∧H'=[.arr n (kvs (gB xs) ++rest) t]:=by
 refine(aC.gcR (Q:=fun r H'=>r=.ret (.vec 0 n 5 0 (gB xs).length)∧∃rest:List _,(∀x∈rest,Low 0 x∧x.cells.length=5)∧(gB xs).length+rest.length=n∧H'=[.arr n (kvs (gB xs) ++rest) t]) ((HV F xs n t hn hne hl).mono fun r' H' ⟨e1,rest,J,hr,hlen,e2⟩=>⟨.ret (.vec 0 n 5 0 (gB xs).length),_,[.arr n (kvs (gB xs) ++rest) t],J,e2,by rw[e1];exact Weak.refl _,.vec _ _ _ _ _ (by decide:0<1),rfl,rfl,fun i o o' h1 h2=>by rw[h1]at h2;cases h2;exact bR.refl o,fO.at ⟨fun x hx=>?_,trivial⟩,rfl,rest,hr,hlen,rfl⟩)).mono fun r H' ⟨_,e1,q⟩=>⟨e1,q⟩
 rcases List.mem_append.1 hx with hx|hx
 ·exact kM 1 _ x hx
 ·exact(hr x hx).1.mono (Nat.zero_le 1)
theorem HY (F:zo T) (xs:List (TA×Bytes)) (n id t:Nat) (H:Heap) (hH:H[id]?=some (.arr n (kvs xs) t)) (hn:n=xs.length) (hne:xs≠[]) (hl:n≤2^40):
  aC T.L 255 [.vec id n 5 0 n,.fn (.func 256) [] []] H fun r H'=>r=.ret (.vec id n 5 0 (gB xs).length)∧∃rest:List au,(∀x∈rest,Low 0 x∧x.cells.length=5)∧(gB xs).length+rest.length=n∧H'=H.set id (.arr n (kvs (gB xs) ++rest) t):=by
 have q0:jA (nameOf [id] H.length) (.arr n (kvs xs) t)=.arr n (kvs xs) t:=eG (show bF 0 (.arr n (kvs xs) t)from kM 0 xs)
 have hp:Part H [id] [.arr n (kvs xs) t]:=by
  refine⟨by simp,rfl,fun k i o hk ho=>?_⟩
  match k,hk,ho with
  |0,hk,ho=>cases hk;cases ho;rw[q0];exact hH
  |k+1,hk,ho=>cases hk
 have hf:=aC.nD (El F xs n t hn hne hl) [id] hp (.inr fun r H' ⟨_,rest,_,_,e⟩=>by rw[e];exact Nat.le_refl 1);refine hf.mono fun r H' ⟨r1,H1',⟨e1,rest,hr,hlen,e2⟩,_,e3,e4⟩=>?_
 subst e1 e2;refine⟨e3,rest,hr,hlen,?_⟩
 have q1:jA (nameOf [id] H.length) (.arr n (kvs (gB xs) ++rest) t)=.arr n (kvs (gB xs) ++rest) t:=eG (show bF 0 (.arr n (kvs (gB xs) ++rest) t)from fun x hx=>by
  rcases List.mem_append.1 hx with hx|hx
  ·exact kM 0 _ x hx
  ·exact(hr x hx).1)
 rw[e4];simp only[List.length_cons,List.length_nil,List.take_succ_cons,List.take_zero,List.drop_succ_cons,List.drop_zero,List.map_cons,List.map_nil,List.append_nil,l8];exact congrArg (H.set id) q1
theorem Em (F:zo T) (H:Heap):aC T.L 255 [.lst [] .nil,.fn (.func 256) [] []] H fun r H'=>r=.ret (.lst [] .nil)∧H'=H:=by
 have h0:Pure T.L 255 [.lst [] .nil,.fn (.func 256) [] []] (.lst [] .nil):=by
  refine Pure.run (gD.at ⟨.lst _ _ trivial (by simp),.fn _ _ _ fP fP,trivial⟩) (.lst _ _ trivial (by simp)) (aG F.Si (by simp[Ol]) ?_);conv=>whnf
  exact aH (Weak.refl _)
 exact h0 H
end Go.Ag

/- Our texts, joined by a program of ours (join.py): part 9 of 9. -/
import Derived.Test.YtlimibffbaihfaaGreatDoorTextH
set_option linter.unusedVariables false
/- Package cupellaw10: PartsShapes. -/
namespace Go.Ag
open Go
variable {T : Tab} {L : Lnk}
structure OO (T:Tab):Prop extends Ee T,UW T where
 SA:T.has 140 F4
 Qg:T.has 154 KI
def LK (o0 o1:aT) (en:eu):Heap:=[o0,o1,.map (bZ en.by_ 0) en.by_.length,.map (gG en.empty 0) en.empty.length,.cells [.map 2,.map 3] 234]
def psC :AC:=Ni 12 F4.body
def psQ (L:Lnk):ni:=SB [.tmp 6] fun r _=>∃x,r=.ret x∧Weak L x (.bool true)
def psV (x y x':TA):List (Nat×au):=[(7,.ptr 4 0),(9,.lst [x.av,y.av] .none),(13,.ptr 6 0),(14,.ptr 7 0),(15,.int .i64 0),(17,.int .i64 2),(19,.int .i64 2),(20,.lst [x'.av] .none),(21,.ptr 10 0),(22,.int .i64 0),(25,.int .i64 2),(26,.lst [.str [106],.str [107]] .none)]
def psH (P:Heap) (r f y' o8 o9 o11:aT):Heap:=P ++[r,f,y',o8,o9,y',o11]
def nrmQ (P:Env→Heap→Prop):ni:=fun x e H=>match x with
 |.normal=>P e H
 |_=>False
theorem Nq {a b:AC} {e:Env} {H:Heap} {P:Env→Heap→Prop} {Q:ni} (ha:dS L a e H (nrmQ P)) (hb:∀e' H',P e' H'→dS L b e' H' Q):dS L (.seq a b) e H Q:=by
 show dS L a e H (sS (fun e' H'=>dS L b e' H' Q) Q);refine lT (fun x e' H' hx=>?_) ha
 cases x with
 |normal=>exact hb _ _ hx
 |_=>exact hx.elim
def psD :AC:=match Dl 1 psC with
 |.seq (.seq d _) _=>d
 |c=>c
def psE :AC:=match Dl 1 psC with
 |.seq (.seq _ c) _=>c
 |c=>c
set_option maxHeartbeats 1000000 in
theorem VD {e:Env} {o0 o1 o2 o3 o4 r f o8 o9 o11:aT} {x y x' y':TA} (he:eY e (psV x y x')) (sx:Pure L 158 [x'.av,x.av] (.bool true)) (sy:Pure L 158 [y'.av,y.av] (.bool true)):
  dS L psD e (psH [o0,o1,o2,o3,o4] r f (bX y') o8 o9 o11) (nrmQ fun e' H'=>H'=psH [o0,o1,o2,o3,o4] r f (bX y') o8 o9 o11∧eY e' ((132,.bool false)::psV x y x')):=by
 refine iN _ _ _ _ ?_;rw[←sQ he];obtain⟨xk,xn,xs,xl⟩:=x;obtain⟨yk,yn,ys,yl⟩:=y;obtain⟨uk,un,us,ul⟩:=x';obtain⟨vk,vn,vs,vl⟩:=y';conv=>whnf
 refine⟨by decide,?_⟩;conv=>whnf
 refine⟨rfl,?_⟩;conv=>whnf
 refine sy.soft ?_;conv=>whnf
 refine⟨Int.le_refl 0,?_⟩;conv=>whnf
 refine⟨rfl,?_⟩;conv=>whnf
 refine⟨Int.le_refl 0,?_⟩;conv=>whnf
 refine⟨rfl,?_⟩;conv=>whnf
 refine sx.soft ?_;conv=>whnf
 refine⟨by decide,?_⟩;conv=>whnf
 refine⟨rfl,?_⟩;conv=>whnf
 refine sy.soft ?_;conv=>whnf
 exact⟨rfl,rfl,rfl,rfl,rfl,rfl,rfl,rfl,rfl,rfl,rfl,rfl,rfl,rfl,trivial⟩
theorem Yg {e:Env} {o0 o1 o2 o3 o4 r f o8 o9 o11:aT} {x y x' y':TA} {Q:ni} (he:eY e (psV x y x')) (sx:Pure L 158 [x'.av,x.av] (.bool true)) (sy:Pure L 158 [y'.av,y.av] (.bool true)):
  dS L (Dl 1 psC) e (psH [o0,o1,o2,o3,o4] r f (bX y') o8 o9 o11) (sS (fun e' H'=>H'=psH [o0,o1,o2,o3,o4] r f (bX y') o8 o9 o11∧eY e' (psV x y x')) Q):=by
 show dS L (.seq (.seq psD psE) .skip) _ _ _;refine Nq (P:=fun e' H'=>H'=psH [o0,o1,o2,o3,o4] r f (bX y') o8 o9 o11∧eY e' (psV x y x')) (Nq (VD he sx sy) fun e' H' ⟨h1,h2,h3⟩=>?_) fun e' H' h=>h
 refine iN _ _ _ _ ?_;rw[←sQ (show eY e' [(132,.bool false)]from⟨h2,trivial⟩)];conv=>whnf
 have:fZ e' [(132,.bool false)]=e':=sQ (show eY e' [(132,.bool false)]from⟨h2,trivial⟩);show _∧eY (fZ e' [(132,.bool false)]) _;rw[this];exact⟨h1,h3⟩
set_option maxHeartbeats 4000000 in
theorem Aj (F:OO T) (src a b:Bytes):Pure T.L 140 [.str src,.str a,.str b] (.bool true):=by
 have hA:=Ij F.towN F.tozx F.Qg;rcases Nat.lt_or_ge 600 src.length with hs|hs
 ·refine Pure.run (eZ.at ⟨.str _,.str _,.str _,trivial⟩) (.bool _) (aG F.SA (by simp[F4]) ?_)
  have hM:=M8 F.toEe src [a,b] hs (by simp);conv=>whnf
  refine hA.to ?_;conv=>whnf
  refine(hM.weak (args:=[.str src,.lst [.str a,.str b] _]) ⟨Weak.refl _,Weak.tok _ _,trivial⟩).to ?_;conv=>whnf
  exact aH (Weak.refl _)
 have hM:=U2 F.toEe src [a,b] hs (by simp) [];have hD:=sM src hs;have hT:=fun t h=>yH (l:=[a,b]) (t:=t) h
 have hL:[a,b].all qO=true→∃x y,iF [a,b]=[x,y]:=fun h=>by
  unfold iF;rw[if_pos h];exact⟨_,_,rfl⟩
 generalize gM src=D at hM hD;generalize iF [a,b]=ts at hM hT hL;refine Pure.run (eZ.at ⟨.str _,.str _,.str _,trivial⟩) (.bool _) (wM F.SA (by simp[F4]) ?_);show dS T.L F4.body (fun i=>[au.str src,.str a,.str b].getD i .undef) [] _;refine rM (P:=fun e H=>∃en o0 o1 x y,mD (jq D) en∧ts=[x,y]∧D.length≤8∧jh D≤60∧sumOf ts≤40∧H=LK o0 o1 en∧eY e [(7,.ptr 4 0),(9,.lst [x.av,y.av] .none)]) 4 _ _ _ (iN _ _ _ _ ?_) fun e1 H1 ⟨en,o0,o1,x,y,hok,ets,h8,hz,hsz,eH,he⟩=>?_
 ·conv=>whnf
  refine hA.to ?_;conv=>whnf
  refine(hM.rE (args:=[.str src,.lst [.str a,.str b] _]) ⟨Weak.refl _,Weak.tok _ _,trivial⟩).mono fun r H' ⟨en,o0,o1,hok,e2,h⟩=>?_
  subst e2;rcases h with⟨hp,h8,hz,e1⟩|e1
  ·subst e1
   obtain⟨x,y,ets⟩:=hL hp;subst ets;conv=>whnf
   by_cases hsz:sumOf [x,y]≤40
   case neg=>
    rw[decide_eq_false hsz];conv=>whnf
    exact aH (Weak.refl _)
   rw[decide_eq_true hsz];conv=>whnf
   exact⟨en,o0,o1,x,y,hok,rfl,h8,hz,hsz,rfl,rfl,rfl,trivial⟩
  ·subst e1
   conv=>whnf
   exact aH (Weak.refl _)
 subst ets eH;have gx:=hT x (by simp);have gy:=hT y (by simp);have sxy:szT x+szT y≤40:=by simpa[sumOf]using hsz
 have w1:=U9 x y;have w2:=Va x y;have z1:=Vg x y;have z2:=Vh x y
 obtain⟨C,W,hC,hB⟩:=XT (ts:=[jG x y,mH x y,.mk 1 [] [] [],dG]) hD h8 hz (fun t ht=>by
  simp only[List.mem_cons,List.not_mem_nil,or_false]at ht;rcases ht with rfl|rfl|rfl|rfl
  ·exact⟨Xm gx.1 gy.1,by omega,by omega⟩
  ·exact⟨Xn gx.1 gy.1,by omega,by omega⟩
  ·exact⟨.int,by decide,by decide⟩
  ·exact⟨.dyn,by decide,by decide⟩) (by simp) hok
 have ps:=Yf F.toUW W gx.1 gy.1 (hC _ (by simp)) (hC _ (by simp)) (hC _ (by simp)) (hC _ (by simp)) (hB _ (by simp)) (hB _ (by simp)) (hB _ (by simp)) (hB _ (by simp))
 have sA:∀z:TA,GT z→wtT z≤2^19→Pure T.L 158 [(aM z).av,z.av] (.bool true):=fun z gz wz=>by
  have:=og z;have:=U7 F.tovJ F.Qf (lI gz).gt gz (by omega) (by omega);rw[L8 gz,beq_self_eq_true]at this;exact this
 have sx:=sA x gx.1 gx.2;have sy:=sA y gy.1 gy.2;clear sA hC hB hM hT hL hA;generalize aM x=x' at ps sx;generalize aM y=y' at ps sy;have hE:∀(J:Heap),KW en (LK o0 o1 en ++J) 2:=fun J=>⟨rfl,rfl,rfl⟩
 have l0:∀z:TA,Low 0 z.av:=aU 0;have la:∀(z:TA) (nm:Bytes),∀w∈[z.av,au.str nm],Low 0 w:=fun z nm=>eZ.at ⟨l0 z,.str _,trivial⟩
 have lr:∀(z:TA) (n:Nat),Low 0 (.tup [z.av,.int .i64 n]):=fun z n=>.tup _ (eZ.at ⟨l0 z,.int _ _,trivial⟩)
 have lc:∀(l:List TA) (z:TA) (n:Nat),Low 0 (.tup [.lst (TA.avs l) .none,z.av,.int .i64 n]):=fun l z n=>.tup _ (eZ.at ⟨.lst _ _ trivial (aV 0 l),l0 z,.int _ _,trivial⟩)
 have hr:∀tk,Weak T.L (.agg [.int .i64 5,.str [],.lst [.str [106],.str [107]] tk,.lst [x.av,y.av] .none]) (jG x y).av:=fun tk=>Weak.agg ⟨Weak.refl _,Weak.refl _,Weak.tok _ _,Weak.refl _,trivial⟩
 have hf:Weak T.L (.agg [.int .i64 6,.str [],.lst [] .nil,.lst [x.av,y.av] .none]) (mH x y).av:=Weak.agg ⟨Weak.refl _,Weak.refl _,Weak.tok _ _,Weak.refl _,trivial⟩;have hk:∀k:Int,Weak T.L (.agg [.int .i64 k,.str [],.lst [] .nil,.lst [] .nil]) (TA.mk k [] [] []).av:=fun k=>Weak.agg ⟨Weak.refl _,Weak.refl _,Weak.tok _ _,Weak.tok _ _,trivial⟩
 have ck:=fun(J:Heap) (tk:Tok) (K KP:au→Heap→Prop) h=>aC.rE (args:=[.ptr 4 0,.agg [.int .i64 5,.str [],.lst [.str [106],.str [107]] tk,.lst [x.av,y.av] .none],.str [107]]) (ps.k.any (la _ _) (lr _ 0) (hE J) (K:=K) (KP:=KP) h) ⟨Weak.refl _,hr tk,Weak.refl _,trivial⟩
 have ci:=fun(J:Heap) (tk:Tok) (K KP:au→Heap→Prop) h=>aC.rE (args:=[.ptr 4 0,.agg [.int .i64 5,.str [],.lst [.str [106],.str [107]] tk,.lst [x.av,y.av] .none],.str [105]]) (ps.i.any (la _ _) (lr _ 2) (hE J) (K:=K) (KP:=KP) h) ⟨Weak.refl _,hr tk,Weak.refl _,trivial⟩
 have cf:=fun(J:Heap) (K KP:au→Heap→Prop) h=>aC.rE (args:=[.ptr 4 0,.agg [.int .i64 6,.str [],.lst [] .nil,.lst [x.av,y.av] .none],.str [107]]) (ps.f.any (la _ _) (lr _ 2) (hE J) (K:=K) (KP:=KP) h) ⟨Weak.refl _,hf,Weak.refl _,trivial⟩
 have cn:=fun(J:Heap) (K KP:au→Heap→Prop) h=>aC.rE (args:=[.ptr 4 0,.agg [.int .i64 1,.str [],.lst [] .nil,.lst [] .nil],.str [107]]) (ps.n.any (la _ _) (lr _ 2) (hE J) (K:=K) (KP:=KP) h) ⟨Weak.refl _,hk 1,Weak.refl _,trivial⟩
 have cc:=fun(J:Heap) (K KP:au→Heap→Prop) h=>aC.rE (args:=[.ptr 4 0,.agg [.int .i64 6,.str [],.lst [] .nil,.lst [x.av,y.av] .none]]) (ps.c.any (dx (l0 _)) (lc [x'] y' 0) (hE J) (K:=K) (KP:=KP) h) ⟨Weak.refl _,hf,trivial⟩
 have cm:=fun(J:Heap) (tk:Tok) (K KP:au→Heap→Prop) h=>aC.rE (args:=[.ptr 4 0,.agg [.int .i64 5,.str [],.lst [.str [106],.str [107]] tk,.lst [x.av,y.av] .none]]) (ps.m.any (dx (l0 _)) (lc [] dG 2) (hE J) (K:=K) (KP:=KP) h) ⟨Weak.refl _,hr tk,trivial⟩
 have cr:=fun(J:Heap) (tk:Tok) (K KP:au→Heap→Prop) h=>aC.rE (args:=[.ptr 4 0,.agg [.int .i64 5,.str [],.lst [.str [106],.str [107]] tk,.lst [x.av,y.av] .none]]) (ps.r.any (dx (l0 _)) (.lst _ _ trivial (eZ.at ⟨.str _,.str _,trivial⟩)) (hE J) (K:=K) (KP:=KP) h) ⟨Weak.refl _,hr tk,trivial⟩
 have cg:=fun(J:Heap) (K KP:au→Heap→Prop) h=>aC.rE (args:=[.ptr 4 0,.agg [.int .i64 6,.str [],.lst [] .nil,.lst [x.av,y.av] .none]]) (ps.g.any (dx (l0 _)) (.lst _ _ trivial fI) (hE J) (K:=K) (KP:=KP) h) ⟨Weak.refl _,hf,trivial⟩
 have cd:=fun(J:Heap) (K KP:au→Heap→Prop) h=>aC.rE (args:=[.ptr 4 0,.agg [.int .i64 4,.str [],.lst [] .nil,.lst [] .nil]]) (ps.d.any (dx (l0 _)) (.lst _ _ trivial fI) (hE J) (K:=K) (KP:=KP) h) ⟨Weak.refl _,hk 4,trivial⟩
 clear ps;refine rM (P:=fun e H=>∃tk,H=psH (LK o0 o1 en) (.cells [.int .i64 5,.str [],.lst [.str [106],.str [107]] tk,.lst [x.av,y.av] .none] 175) (.cells [.int .i64 6,.str [],.lst [] .nil,.lst [x.av,y.av] .none] 175) (bX y') (bX dG) (bX dG) (bX dG)∧eY e (psV x y x')) 8 _ _ _ (iN _ _ _ _ ?_) fun e2 H2 ⟨tk,eH,he2⟩=>?_
 ·rw[←sQ he]
  obtain⟨xk,xn,xs,xl⟩:=x;obtain⟨yk,yn,ys,yl⟩:=y;obtain⟨vk,vn,vs,vl⟩:=y';conv=>whnf
  refine ck _ _ _ _ ?_;conv=>whnf
  refine ci _ _ _ _ ?_;conv=>whnf
  refine cf _ _ _ ?_;conv=>whnf
  refine cc _ _ _ ?_;conv=>whnf
  refine cm _ _ _ _ ?_;conv=>whnf
  refine cr _ _ _ _ ?_;conv=>whnf
  exact⟨_,rfl,rfl,rfl,rfl,rfl,rfl,rfl,rfl,rfl,rfl,rfl,rfl,rfl,trivial⟩
 ·subst eH
  clear ck ci cf cc cm cr hok hD gx gy sxy w1 w2 z1 z2;show dS T.L psC e2 _ (psQ T.L);refine rM 1 _ _ _ (Yg he2 sx sy) fun e3 H3 ⟨eH3,he3⟩=>?_
  subst eH3;refine iN _ _ _ _ ?_;rw[←sQ he3];clear he2 he3 sx sy;obtain⟨xk,xn,xs,xl⟩:=x;obtain⟨yk,yn,ys,yl⟩:=y;obtain⟨vk,vn,vs,vl⟩:=y';conv=>whnf
  refine cn _ _ _ ?_;conv=>whnf
  refine⟨Int.le_refl 0,?_⟩;conv=>whnf
  refine⟨rfl,?_⟩;conv=>whnf
  refine⟨by decide,?_⟩;conv=>whnf
  refine⟨rfl,?_⟩;conv=>whnf
  refine cg _ _ _ ?_;conv=>whnf
  refine cd _ _ _ ?_;conv=>whnf
  exact aH (Weak.refl _)
end Go.Ag
/- Package types: the library's CompactFunc of keyed types, walked. -/
namespace Go.Ag
open Go
variable {T : Tab} {L : Lnk}
def zkv :au:=.agg [.int .i64 0,.str [],.lst [] .nil,.lst [] .nil,.str []]
structure DStep (xs A:List (TA×Bytes)) (p m:Nat):Prop where
 len:A.length=xs.length
 front:A.take m=fT (xs.take p)
 Me:m=(fT (xs.take p)).length
 pos:1≤p
 lt:m<p
 back:A.drop (p-1)=xs.drop (p-1)
theorem DStep.at {xs A:List (TA×Bytes)} {p m:Nat} (h:DStep xs A p m) {j:Nat} (h1:p-1≤j):A[j]?=xs[j]?:=by
 have e1:A[j]?=(A.drop (p-1))[j-(p-1)]?:=by rw[List.getElem?_drop];congr 1;omega
 have e2:xs[j]?=(xs.drop (p-1))[j-(p-1)]?:=by rw[List.getElem?_drop];congr 1;omega
 rw[e1,e2,h.back]
theorem DStep.skip {xs A:List (TA×Bytes)} {p m:Nat} (h:DStep xs A p m) (hp:p<xs.length) (he:(xs[p].2==(xs[p-1]'(by omega)).2)=true):DStep xs A (p+1) m:=by
 have h1:=wH xs p h.pos hp;rw[if_pos he,List.append_nil]at h1;refine⟨h.len,by rw[h1];exact h.front,by rw[h1];exact h.Me,by omega,by have:=h.lt;omega,?_⟩;have e1:A.drop p=(A.drop (p-1)).drop 1:=by rw[List.drop_drop];congr 1;have:=h.pos;omega
 have e2:xs.drop p=(xs.drop (p-1)).drop 1:=by rw[List.drop_drop];congr 1;have:=h.pos;omega
 show A.drop p=xs.drop p;rw[e1,e2,h.back]
theorem DStep.take {xs A:List (TA×Bytes)} {p m:Nat} (h:DStep xs A p m) (hp:p<xs.length) (he:(xs[p].2==(xs[p-1]'(by omega)).2)=false):DStep xs (A.take m ++[xs[p]] ++A.drop (m+1)) (p+1) (m+1):=by
 have h1:=wH xs p h.pos hp;rw[if_neg (by rw[he];simp)]at h1;have hlt:=h.lt;have hlen:=h.len;have hml:(A.take m).length=m:=by rw[List.length_take];omega
 have e0:(A.take m ++[xs[p]]).length=m+1:=by simp[hml]
 refine⟨by simp;omega,?_,by rw[h1,List.length_append,←h.Me];rfl,by omega,by omega,?_⟩
 ·rw[List.take_append_of_le_length (by omega),List.take_of_length_le (by omega),h1,h.front]
 ·show List.drop p _=List.drop p xs
  rw[List.drop_append,List.drop_of_length_le (by omega:(A.take m ++[xs[p]]).length≤p),List.nil_append,e0,List.drop_drop];have e1:A.drop p=(A.drop (p-1)).drop 1:=by rw[List.drop_drop];congr 1;have:=h.pos;omega
  have e2:xs.drop p=(xs.drop (p-1)).drop 1:=by rw[List.drop_drop];congr 1;have:=h.pos;omega
  rw[show m+1+(p-(m+1))=p from by omega,e1,e2,h.back]
theorem VR (n:Nat):Low n zkv:=.agg _ (eZ.at ⟨.int _ _,.str _,.lst _ _ trivial (by simp),.lst _ _ trivial (by simp),.str _,trivial⟩)
theorem Yj (u:TA×Bytes):okB 5 (au.agg (kv u).cells)=true:=by
 obtain⟨⟨k,nm,ns,l⟩,s⟩:=u;rfl
theorem YJ {xs A:List (TA×Bytes)} {n t m r:Nat} (hr:m+(r+1)=n) (hA:A.length=n) (hf:A.take m=fT xs):
  DX 5 (.agg [.int .i64 0,.str [],.lst [] .nil,.lst [] .nil,.str []]) [.arr n (kvs A) t] (.vec 0 n 5 (0+m) (r+1))=some [.arr n (kvs (fT xs) ++List.replicate (r+1) zkv) t]:=by
 rw[Nat.zero_add,DX];simp only[List.getElem?_cons_zero];rw[if_pos ⟨trivial,trivial,by rw[jL];omega,by rw[List.all_eq_true];exact fun y hy=>by simpa using u6 A y hy⟩];have e1:(kvs A).take m=kvs (fT xs):=by rw[←hf];simp[kvs,List.map_take]
 have e2:(kvs A).drop (m+(r+1))=[]:=List.drop_of_length_le (by rw[jL];omega);rw[e1,e2,List.append_nil];rfl
theorem sub1 {k:Nat} (h1:1≤k) (h:k<9223372036854775808):IntKind.i64.wrap ((k:Int)-1)=((k-1:Nat):Int):=by
 rw[IntWalk.i64_in _ (by omega)];omega
theorem H9 (F:zC T) (xs:List (TA×Bytes)) (n t:Nat) (hn:n=xs.length) (hne:xs≠[]) (hl:n≤2^40):
  aC T.L 255 [.vec 0 n 5 0 n,.fn (.func 256) [] []] [.arr n (kvs xs) t] fun r H'=>r=.ret (.vec 0 n 5 0 (fT xs).length)∧∃rest J:List _,(∀x∈rest,Low 0 x∧x.cells.length=5)∧(fT xs).length+rest.length=n∧H'=[.arr n (kvs (fT xs) ++rest) t] ++J:=by
 have heq:=Tc F.Ht;have hpos:0<xs.length:=List.length_pos_iff.2 hne;have hk5:=u6 xs;refine aG F.Sv (by simp[Ou]) ?_;conv=>whnf
 have e2:((n:Int)<2)=(n<2):=by apply propext;omega
 cases hn2:decide ((n:Int)<2)
 ·have hn2':2≤n:=by simp at hn2;omega
  conv=>whnf
  intro I hI hG
  have key:∀(d i:Nat) (e:Env),n-i=d→1≤i→i≤n→fT (xs.take i)=xs.take i→I (fZ e [(0,.vec 0 n 5 0 n),(1,.fn (.func 256) [] []),(5,.int .i64 i)]) [.arr n (kvs xs) t]:=by
   intro d
   induction d with
   |zero=>
    intro i e hd h1 hi MB;apply hI;conv=>whnf
    rw[bW (by omega)];conv=>whnf
    have:xs.take i=xs:=List.take_of_length_le (by omega);rw[this]at MB;refine⟨?_,[],[],(by simp),?_,?_⟩
    ·rw[MB,←hn];rfl
    ·rw[MB,hn];rfl
    ·rw[MB,List.append_nil,List.append_nil]
   |succ d ihd=>
    intro i e hd h1 hi MB;have hin:i<n:=by omega
    have hix:i<xs.length:=by omega
    apply hI;conv=>whnf
    rw[dB hin];conv=>whnf
    refine⟨⟨Int.natCast_nonneg _,by omega,rfl⟩,?_⟩;conv=>whnf
    rw[sub1 h1 (by omega)];refine⟨⟨Int.natCast_nonneg _,by omega,rfl⟩,?_⟩;conv=>whnf
    have ha:(0+((i:Nat):Int).toNat)*5=i*5:=by simp
    have hb:(0+((i-1:Nat):Int).toNat)*5=(i-1)*5:=by simp
    rw[ha,hb];have hgi:(kvs xs)[i]?=some (kv xs[i]):=by simp[kvs,List.getElem?_map,List.getElem?_eq_getElem hix]
    have hgj:(kvs xs)[i-1]?=some (kv (xs[i-1]'(by omega))):=by simp[kvs,List.getElem?_map,List.getElem?_eq_getElem (show i-1<xs.length by omega)]
    have hsn:(xs[i].2==(xs[i-1]'(by omega)).2)=false→fT (xs.take (i+1))=xs.take (i+1):=fun he=>by
     have h2:=wH xs i h1 hix;rw[if_neg (by rw[he];simp),MB]at h2;rw[h2,List.take_succ_eq_append_getElem hix]
    have hq:=heq xs[i] (xs[i-1]'(by omega))
    have hsk:(xs[i].2==(xs[i-1]'(by omega)).2)=true→DStep xs xs (i+1) i:=fun he=>by
     have h2:=wH xs i h1 hix;rw[if_pos he,List.append_nil,MB]at h2;exact⟨rfl,h2.symm,by rw[h2,List.length_take];omega,by omega,by omega,rfl⟩
    generalize xs[i]=u at hgi hsn hq hsk;generalize xs[i-1]'(by omega)=w at hgj hsn hq hsk;refine l9 (vZ rfl hk5 hgi) ?_;conv=>whnf
    refine l9 (vZ rfl hk5 hgj) ?_;conv=>whnf
    refine hq.to ?_;conv=>whnf
    have hi1:i+1<9223372036854775808:=by omega
    cases huw:(u.2==w.2)
    ·conv=>whnf
     exact hG.keep [(0,.vec 0 n 5 0 n),(1,.fn (.func 256) [] []),(5,.int .i64 (i+1:Nat))] [.arr n (kvs xs) t] (Nat.le_refl 1) rfl ⟨rfl,rfl,add1 hi1,trivial⟩
      ⟨.vec _ _ _ _ _ (by decide:0<1),.fn _ _ _ fI fI,.int _ _,trivial⟩ ⟨kQ 1 xs,trivial⟩ (ihd (i+1) _ (by omega) (by omega) (by omega) (hsn huw))
    ·have hst:=hsk huw
     clear hsk hsn hq ihd hgi hgj ha hb huw;conv=>whnf
     refine⟨⟨by omega,by omega,by omega,rfl⟩,?_⟩;conv=>whnf
     rw[Int.toNat_natCast];intro J hJ hGJ
     have keyI:∀(d k m:Nat) (A:List (TA×Bytes)) (e:Env),n-(i+k)=d→1≤k→i+k≤n→DStep xs A (i+k) m→J (fZ e [(0,.vec 0 n 5 0 n),(1,.fn (.func 256) [] []),(5,.int .i64 m),(6,.vec 0 n 5 i (n-i)),(7,.int .i64 k)]) [.arr n (kvs A) t]:=by
      intro d
      induction d with
      |zero=>
       intro k m A e hd hk1 hk hst;apply hJ;conv=>whnf
       rw[bW (by omega)];conv=>whnf
       have hmn:m<n:=by have:=hst.lt;omega
       obtain⟨r,hr⟩:∃r,n-m=r+1:=⟨n-m-1,by omega⟩;refine⟨⟨by omega,by omega,by omega,rfl⟩,?_⟩;conv=>whnf
       rw[Int.toNat_natCast,hr];conv=>whnf
       have hend:i+k=n:=by omega
       rw[hend]at hst;have hxt:xs.take n=xs:=List.take_of_length_le (by omega);have hfr:=hst.front;have hm:=hst.Me;rw[hxt]at hfr hm;rw[YJ (by omega) (by rw[hst.len];omega) hfr];conv=>whnf
       refine⟨⟨by omega,by omega,by omega,rfl⟩,?_⟩;conv=>whnf
       refine⟨by rw[←hm];rfl,List.replicate (r+1) zkv,[],fun x hx=>?_,by rw[List.length_replicate,←hm];omega,by rw[List.append_nil]⟩;rw[List.eq_of_mem_replicate hx];exact⟨VR 0,rfl⟩
      |succ d ihd=>
       intro k m A e hd hk1 hk hst;apply hJ;conv=>whnf
       rw[dB (by omega)];conv=>whnf
       have hpx:i+k<xs.length:=by omega
       have hA5:=u6 A;have hAl:=hst.len;have hlt:=hst.lt;refine⟨⟨Int.natCast_nonneg _,by omega,rfl⟩,?_⟩;conv=>whnf
       rw[sub1 hk1 (by omega)];refine⟨⟨Int.natCast_nonneg _,by omega,rfl⟩,?_⟩;conv=>whnf
       have ha:(i+((k:Nat):Int).toNat)*5=(i+k)*5:=by simp
       have hb:(i+((k-1:Nat):Int).toNat)*5=(i+k-1)*5:=by rw[Int.toNat_natCast];congr 1;omega
       rw[ha,hb];have hgi:(kvs A)[i+k]?=some (kv xs[i+k]):=by simp[kvs,List.getElem?_map,hst.at (j:=i+k) (by omega),List.getElem?_eq_getElem hpx]
       have hgj:(kvs A)[i+k-1]?=some (kv (xs[i+k-1]'(by omega))):=by simp[kvs,List.getElem?_map,hst.at (j:=i+k-1) (by omega),List.getElem?_eq_getElem (show i+k-1<xs.length by omega)]
       have hq:=heq xs[i+k] (xs[i+k-1]'(by omega));have AY:=hst.skip hpx;have htake:=hst.take hpx;generalize xs[i+k]=u at hgi hq AY htake;generalize xs[i+k-1]'(by omega)=w at hgj hq AY htake;refine l9 (vZ rfl hA5 hgi) ?_;conv=>whnf
       refine l9 (vZ rfl hA5 hgj) ?_;conv=>whnf
       refine hq.to ?_;conv=>whnf
       have hk1':k+1<9223372036854775808:=by omega
       have hm1':m+1<9223372036854775808:=by omega
       cases huw:(u.2==w.2)
       ·have hst':=htake huw
        conv=>whnf
        refine⟨⟨Int.natCast_nonneg _,by omega,rfl⟩,?_⟩;conv=>whnf
        rw[ha];refine l9 (vZ rfl hA5 hgi) ?_;conv=>whnf
        refine⟨⟨Int.natCast_nonneg _,by omega,rfl⟩,?_⟩;conv=>whnf
        rw[Yj u,show(0+((m:Nat):Int).toNat)*5=m*5 from by simp,Q7 (H:=[.arr n (kvs A) t]) (x:=.agg (kv u).cells) (i:=m) rfl hA5 (Fp u) (by rw[jL];omega)];rw[show(kvs A).take m ++[au.agg (kv u).cells] ++(kvs A).drop (m+1)=kvs (A.take m ++[u] ++A.drop (m+1))from by simp[kvs,List.map_take,List.map_drop];rfl];generalize A.take m ++[u] ++A.drop (m+1)=A' at hst'⊢;conv=>whnf
        exact hGJ.keep [(0,.vec 0 n 5 0 n),(1,.fn (.func 256) [] []),(5,.int .i64 (m+1:Nat)),(6,.vec 0 n 5 i (n-i)),(7,.int .i64 (k+1:Nat))] [.arr n (kvs A') t] (Nat.le_refl 1) rfl ⟨rfl,rfl,add1 hm1',rfl,add1 hk1',trivial⟩
         ⟨.vec _ _ _ _ _ (by decide:0<1),.fn _ _ _ fI fI,.int _ _,.vec _ _ _ _ _ (by decide:0<1),.int _ _,trivial⟩ ⟨kQ 1 A',trivial⟩ (ihd (k+1) (m+1) A' _ (by omega) (by omega) (by omega) hst')
       ·have hst':=AY huw
        conv=>whnf
        exact hGJ.keep [(0,.vec 0 n 5 0 n),(1,.fn (.func 256) [] []),(5,.int .i64 m),(6,.vec 0 n 5 i (n-i)),(7,.int .i64 (k+1:Nat))] [.arr n (kvs A) t] (Nat.le_refl 1) rfl ⟨rfl,rfl,rfl,rfl,add1 hk1',trivial⟩
         ⟨.vec _ _ _ _ _ (by decide:0<1),.fn _ _ _ fI fI,.int _ _,.vec _ _ _ _ _ (by decide:0<1),.int _ _,trivial⟩ ⟨kQ 1 A,trivial⟩ (ihd (k+1) m A _ (by omega) (by omega) (by omega) hst')
     exact inv_of [(0,.vec 0 n 5 0 n),(1,.fn (.func 256) [] []),(5,.int .i64 i),(6,.vec 0 n 5 i (n-i)),(7,.int .i64 (1:Nat))] ⟨rfl,rfl,rfl,by rw[Nat.zero_add]<;>rfl,rfl,trivial⟩ (keyI _ 1 i xs _ rfl (Nat.le_refl 1) (by omega) hst)
  exact inv_of [(0,.vec 0 n 5 0 n),(1,.fn (.func 256) [] []),(5,.int .i64 (1:Nat))] ⟨rfl,rfl,rfl,trivial⟩ (key _ 1 _ rfl (Nat.le_refl 1) (by omega) (by cases xs with
   |nil=>cases hne rfl
   |cons x l=>rfl))
 ·have hn1:n=1:=by simp at hn2;omega
  conv=>whnf
  obtain⟨x,rfl⟩:∃x,xs=[x]:=List.length_eq_one_iff.1 (by omega);refine⟨by rw[hn1];rfl,[],[],by simp,by rw[hn1];rfl,by rw[List.append_nil,List.append_nil];rfl⟩
theorem Ep (F:zC T) (xs:List (TA×Bytes)) (n t:Nat) (hn:n=xs.length) (hne:xs≠[]) (hl:n≤2^40):
  aC T.L 255 [.vec 0 n 5 0 n,.fn (.func 256) [] []] [.arr n (kvs xs) t] fun r H'=>r=.ret (.vec 0 n 5 0 (fT xs).length)∧∃rest:List _,(∀x∈rest,Low 0 x∧x.cells.length=5)∧(fT xs).length+rest.length=n∧H'=[.arr n (kvs (fT xs) ++rest) t]:=by
 refine(aC.gcR (Q:=fun r H'=>r=.ret (.vec 0 n 5 0 (fT xs).length)∧∃rest:List _,(∀x∈rest,Low 0 x∧x.cells.length=5)∧(fT xs).length+rest.length=n∧H'=[.arr n (kvs (fT xs) ++rest) t]) ((H9 F xs n t hn hne hl).mono fun r' H' ⟨e1,rest,J,hr,hlen,e2⟩=>⟨.ret (.vec 0 n 5 0 (fT xs).length),_,[.arr n (kvs (fT xs) ++rest) t],J,e2,by rw[e1];exact Weak.refl _,.vec _ _ _ _ _ (by decide:0<1),rfl,rfl,fun i o o' h1 h2=>by rw[h1]at h2;cases h2;exact bO.refl o,fH.at ⟨fun x hx=>?_,trivial⟩,rfl,rest,hr,hlen,rfl⟩)).mono fun r H' ⟨_,e1,q⟩=>⟨e1,q⟩
 rcases List.mem_append.1 hx with hx|hx
 ·exact kQ 1 _ x hx
 ·exact(hr x hx).1.mono (Nat.zero_le 1)
theorem Ia (F:zC T) (xs:List (TA×Bytes)) (n id t:Nat) (H:Heap) (hH:H[id]?=some (.arr n (kvs xs) t)) (hn:n=xs.length) (hne:xs≠[]) (hl:n≤2^40):
  aC T.L 255 [.vec id n 5 0 n,.fn (.func 256) [] []] H fun r H'=>r=.ret (.vec id n 5 0 (fT xs).length)∧∃rest:List au,(∀x∈rest,Low 0 x∧x.cells.length=5)∧(fT xs).length+rest.length=n∧H'=H.set id (.arr n (kvs (fT xs) ++rest) t):=by
 have q0:jy (nameOf [id] H.length) (.arr n (kvs xs) t)=.arr n (kvs xs) t:=dD (show bC 0 (.arr n (kvs xs) t)from kQ 0 xs)
 have hp:Part H [id] [.arr n (kvs xs) t]:=by
  refine⟨by simp,rfl,fun k i o hk ho=>?_⟩
  match k,hk,ho with
  |0,hk,ho=>cases hk;cases ho;rw[q0];exact hH
  |k+1,hk,ho=>cases hk
 have hf:=aC.mW (Ep F xs n t hn hne hl) [id] hp (.inr fun r H' ⟨_,rest,_,_,e⟩=>by rw[e];exact Nat.le_refl 1);refine hf.mono fun r H' ⟨r1,H1',⟨e1,rest,hr,hlen,e2⟩,_,e3,e4⟩=>?_
 subst e1 e2;refine⟨e3,rest,hr,hlen,?_⟩
 have q1:jy (nameOf [id] H.length) (.arr n (kvs (fT xs) ++rest) t)=.arr n (kvs (fT xs) ++rest) t:=dD (show bC 0 (.arr n (kvs (fT xs) ++rest) t)from fun x hx=>by
  rcases List.mem_append.1 hx with hx|hx
  ·exact kQ 0 _ x hx
  ·exact(hr x hx).1)
 rw[e4];simp only[List.length_cons,List.length_nil,List.take_succ_cons,List.take_zero,List.drop_succ_cons,List.drop_zero,List.map_cons,List.map_nil,List.append_nil,mE];exact congrArg (H.set id) q1
theorem Er (F:zC T) (H:Heap):aC T.L 255 [.lst [] .nil,.fn (.func 256) [] []] H fun r H'=>r=.ret (.lst [] .nil)∧H'=H:=by
 have h0:Pure T.L 255 [.lst [] .nil,.fn (.func 256) [] []] (.lst [] .nil):=by
  refine Pure.run (eZ.at ⟨.lst _ _ trivial (by simp),.fn _ _ _ fI fI,trivial⟩) (.lst _ _ trivial (by simp)) (aG F.Sv (by simp[Ou]) ?_);conv=>whnf
  exact aH (Weak.refl _)
 exact h0 H
end Go.Ag

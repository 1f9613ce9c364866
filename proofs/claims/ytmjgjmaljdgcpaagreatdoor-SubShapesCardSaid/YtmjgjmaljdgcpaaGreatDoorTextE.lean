/- Our texts, joined by a program of ours (join.py): part 5 of 9. -/
import Derived.Test.YtmjgjmaljdgcpaaGreatDoorTextD
import Derived.KernelRfl
set_option linter.unusedVariables false
/- Package cupelref05: Type, arrow, plain. -/
namespace Go.Ag
open Go
variable {T : Tab} {L : Lnk}
structure ED (T:Tab) (n:Nat):Prop where
 type:∀(d:Nat) (s:RS),s.ok→d≤65→6*s.rem+6≤n→RC T.L 62 [.int .i64 d] s (bM n d s).1.av (bM n d s).2
 arrow:∀(d:Nat) (s:RS),s.ok→d≤64→6*s.rem+5≤n→RC T.L 83 [.int .i64 d] s (bV n d s).1.av (bV n d s).2
 plain:∀(d:Nat) (s:RS),s.ok→d≤64→6*s.rem+4≤n→RC T.L 96 [.int .i64 d] s (dU n d s).1.av (dU n d s).2
theorem iB :Weak L (.agg [.int .i64 0,.str [],.lst [] .nil,.lst [] .nil]) mJ.av:=by
 rw[mJ,TA.av];exact Weak.agg ⟨Weak.refl _,Weak.refl _,Weak.tok _ _,Weak.tok _ _,trivial⟩
theorem NI (F:uF T) (n:Nat) (ih:∀m,m≤n→ED T m) (d:Nat) (s:RS) (hs:s.ok) (hd:d≤64) (hf:6*s.rem+5≤n+1):RC T.L 83 [.int .i64 d] s (bV (n+1) d s).1.av (bV (n+1) d s).2:=by
 refine RC.of 0 (aQ _ _) (aG F.h83 (by simp[ZC]) ?_);have hp:=(ih n (Nat.le_refl _)).plain d s hs hd (by omega);have hle:=(bN n).2.2.2.1 d s hs;rw[bV];generalize dU n d s=p at hp hle⊢;obtain⟨⟨k,nm,ns,l⟩,s1⟩:=p;dsimp only at hp hle⊢;have hs1:=hs.of hle;conv=>whnf
 refine hp.to (dD (.int _ _)) (aQ _ _) _ rfl ?_;conv=>whnf
 refine F.is hs1 qL _ rfl ?_;cases hi:isR s1 qL
 ·rw[if_neg (by simp)]
  conv=>whnf
  exact⟨_,rfl,Weak.refl _,rfl⟩
 ·rw[if_pos rfl]
  conv=>whnf
  refine F.take hs1 qL _ rfl ?_;have k2:=aL hs1 qL;have hs2:=hs1.of k2;have hr:=eO hs1 hi;have hr0:=hle.rem;generalize aD s1 qL=s2 at k2 hs2 hr⊢;conv=>whnf
  rw[addN (by omega)];cases hdd:decide (((d+1:Nat):Int)>64)
  ·rw[if_neg (by simp at hdd;omega)]
   conv=>whnf
   rw[addN (by omega)];have ha:=(ih n (Nat.le_refl _)).arrow (d+1) s2 hs2 (by simp at hdd;omega) (by omega);generalize bV n (d+1) s2=q at ha⊢;obtain⟨⟨k',nm',ns',l'⟩,s3⟩:=q;dsimp only at ha⊢;refine ha.to (dD (.int _ _)) (aQ _ _) _ rfl ?_;conv=>whnf
   refine⟨_,rfl,?_,rfl⟩;rw[TA.av];exact Weak.agg ⟨Weak.refl _,Weak.refl _,Weak.tok _ _,Weak.tok _ _,trivial⟩
  ·rw[if_pos (by simp at hdd;omega)]
   conv=>whnf
   refine F.give hs2 3 _ rfl ?_;conv=>whnf
   exact⟨_,rfl,Weak.refl _,rfl⟩
theorem fU (s:RS) (c:Int):(cZ s c).bad=true:=by
 unfold cZ;split
 ·rename_i h;exact h
 ·rfl
theorem PU (F:uF T) (n:Nat) (ih:∀m,m≤n→ED T m) (d:Nat) (s:RS) (hs:s.ok) (hd:d≤65) (hf:6*s.rem+6≤n+1):RC T.L 62 [.int .i64 d] s (bM (n+1) d s).1.av (bM (n+1) d s).2:=by
 refine RC.of 1 (aQ _ _) (aG F.h62 (by simp[ZF]) ?_);rw[bM];conv=>whnf
 cases hdd:decide ((d:Int)>64)
 ·have Al:¬64<d:=by simp at hdd;omega
  simp only[if_neg Al];conv=>whnf
  cases hb:s.bad
  ·rw[if_neg (by simp)]
   have hp:=(ih n (Nat.le_refl _)).arrow d s hs (by omega) (by omega);have hle:=(bN n).2.2.1 d s hs;generalize bV n d s=p at hp hle⊢;obtain⟨⟨k,nm,ns,ll⟩,s1⟩:=p;dsimp only at hp hle⊢;have hs1:=hs.of hle;conv=>whnf
   refine hp.to (dD (.int _ _)) (aQ _ _) _ rfl ?_;conv=>whnf
   refine F.is hs1 mI _ rfl ?_;cases hi:isR s1 mI
   ·rw[if_neg (by simp)]
    conv=>whnf
    exact⟨_,rfl,Weak.refl _,rfl⟩
   ·rw[if_pos rfl]
    conv=>whnf
    intro I hI hG
    have key:∀(m:Nat) (s':RS) (l:List TA) (e:Env),m≤n→s'.ok→6*s'.rem+5≤m→1≤l.length→l.length+s'.rem≤2^34→jq n d [.mk k nm ns ll] s1=jq m d l s'→
      I (gB e [(0,.ptr 1 0),(1,.int .i64 d),(4,.ptr 3 0),(6,.ptr 5 0)]) [gI s',j6 s',Rw 1 l.length 109,.cells [.int .i64 0,.str [],.lst [] .nil,.lst [] .nil] 109,
       .cells [.int .i64 k,.str nm,.lst (aO ns) .none,.lst (TA.avs ll) .none] 109,.cells [.int .i64 7,.str [],.lst [] .nil,.lst (TA.avs l) (Rv 1 l.length 2)] 109]:=by
     intro m
     induction m with
     |zero=>intro s' l e _ _ h;omega
     |succ m ihm=>
      intro s' l e hm hs' hf' hl1 hl2 hv;rw[jq]at hv;apply hI;conv=>whnf
      refine F.is hs' mI _ rfl ?_;cases hi':isR s' mI
      ·rw[if_neg (by simp[hi'])]at hv
       rw[hv];conv=>whnf
       refine⟨_,rfl,?_,rfl⟩;rw[TA.av];exact Weak.agg ⟨Weak.refl _,Weak.refl _,Weak.tok _ _,Weak.tok _ _,trivial⟩
      ·rw[if_pos hi']at hv
       conv=>whnf
       refine F.take hs' mI _ rfl ?_;have k2:=aL hs' mI;have hs2:=hs'.of k2;have hr:=eO hs' hi';generalize aD s' mI=s2 at k2 hs2 hr hv⊢;conv=>whnf
       have ha:=(ih m (by omega)).arrow d s2 hs2 (by omega) (by omega);have hle':=(bN m).2.2.1 d s2 hs2;generalize bV m d s2=q at ha hle' hv⊢;obtain⟨⟨k',nm',ns',l'⟩,s3⟩:=q;dsimp only at ha hle' hv⊢;refine ha.to (dD (.int _ _)) (aQ _ _) _ rfl ?_;conv=>whnf
       refine⟨⟨rfl,trivial⟩,?_⟩;conv=>whnf
       have e1:l.length=(TA.avs l).length:=(bY l).symm;have hr3:=hle'.rem;rw[e1];refine Gx (id:=2) (b:=1) (gL l) (bP rfl) (by rw[bY];simp;omega) (by rw[bY];simp;omega) (by simp) (by rw[bY];exact hl1) rfl ?_;conv=>whnf
       have e2:TA.avs (l ++[.mk k' nm' ns' l'])=TA.avs l ++[.agg [.int .i64 k',.str nm',.lst (aO ns') .none,.lst (TA.avs l') .none]]:=by rw[jC];rfl
       have e3:(l ++[TA.mk k' nm' ns' l']).length=(TA.avs l ++[au.agg [.int .i64 k',.str nm',.lst (aO ns') .none,.lst (TA.avs l') .none]]).length:=by rw[←e2,bY]
       have hnext:=fun e=>ihm s3 (l ++[.mk k' nm' ns' l']) e (by omega) (hs2.of hle') (by omega) (by simp) (by simp;omega) hv
       rw[e3,e2]at hnext;exact inv_of [(0,.ptr 1 0),(1,.int .i64 d),(4,.ptr 3 0),(6,.ptr 5 0)] ⟨rfl,rfl,rfl,rfl,trivial⟩ (hnext _)
    exact inv_of [(0,.ptr 1 0),(1,.int .i64 d),(4,.ptr 3 0),(6,.ptr 5 0)] ⟨rfl,rfl,rfl,rfl,trivial⟩ (key n s1 [.mk k nm ns ll] _ (Nat.le_refl _) hs1 (by have:=hle.rem;omega) (by simp) (by have:=hle.rem;have:=hs.len;simp[RS.rem]at*;omega) rfl)
  ·rw[if_pos rfl]
   conv=>whnf
   exact⟨_,rfl,iB,rfl⟩
 ·have Al:64<d:=by simp at hdd;omega
  simp only[if_pos Al];conv=>whnf
  refine F.give hs 3 _ rfl ?_;conv=>whnf
  rw[fU,if_pos rfl];conv=>whnf
  exact⟨_,rfl,iB,rfl⟩
theorem QA {s:RS} (h:s.tok.kind=1) (w:Bytes):isR s w=false:=by
 cases hi:isR s w
 ·rfl
 ·rcases(wG hi).2.2.2 with h'|h'<;>omega
theorem step_elem {k:Nat} {xs:List au} {n:Int} {y:au} {P:au→Prop} (h0:0≤n) (h:xs[n.toNat]?=some y) (hk:y.cells.length=k) (hp:P y):0≤n∧(match xs[n.toNat]? with
  |some y=>y.cells.length=k∧P y
  |none=>False):=⟨h0,by rw[h];exact⟨hk,hp⟩⟩
theorem ze {α:Type} (l:List α) (i:Nat) (x:α):(kg l i x).length=l.length+1:=by
 simp only[kg,List.length_append,List.length_take,List.length_drop,List.length_cons,List.length_nil];omega
theorem Gq (s:RS):fu s=if isR s kRb then s else if isR (aD s gX) kRb then cZ (aD s gX) 2 else aD s gX:=rfl
theorem MH (F:uF T) (n:Nat) (ih:∀m,m≤n→ED T m) (d:Nat) (s:RS) (hs:s.ok) (hd:d≤64) (hf:6*s.rem+4≤n+1):RC T.L 96 [.int .i64 d] s (dU (n+1) d s).1.av (dU (n+1) d s).2:=by
 refine RC.of 0 (aQ _ _) (aG F.h96 (by simp[ZB]) ?_);obtain⟨R,hR⟩:∃R,dU (n+1) d s=R:=⟨_,rfl⟩;rw[hR];rw[dU]at hR;conv=>whnf
 cases hb:s.bad
 ·rw[if_neg (by simp[hb])]at hR
  conv=>whnf
  refine jM hs ?_;conv=>whnf
  cases hk:(s.tok.kind==1)
  ·rw[if_neg (by simpa using hk)]at hR
   conv=>whnf
   intro I hI hG
   have base:∀(i:Int),Weak T.L (.agg [.int .i64 i,.str [],.lst [] .nil,.lst [] .nil]) (TA.mk i [] [] []).av:=fun i=>by
    rw[TA.av];exact Weak.agg ⟨Weak.refl _,Weak.refl _,Weak.tok _ _,Weak.tok _ _,trivial⟩
   refine hI _ _ ?_;conv=>whnf
   refine⟨by decide,?_⟩;conv=>whnf
   refine⟨rfl,?_⟩;conv=>whnf
   refine F.is hs Iq _ rfl ?_;cases h0:isR s Iq
   ·rw[if_neg (by simp[h0])]at hR
    conv=>whnf
    refine hI _ _ ?_;conv=>whnf
    refine⟨by decide,?_⟩;conv=>whnf
    refine⟨rfl,?_⟩;conv=>whnf
    refine F.is hs za _ rfl ?_;cases h1:isR s za
    ·rw[if_neg (by simp[h1])]at hR
     conv=>whnf
     refine hI _ _ ?_;conv=>whnf
     refine⟨by decide,?_⟩;conv=>whnf
     refine⟨rfl,?_⟩;conv=>whnf
     refine F.is hs y9 _ rfl ?_;cases h2:isR s y9
     ·rw[if_neg (by simp[h2])]at hR
      conv=>whnf
      refine hI _ _ ?_;conv=>whnf
      refine⟨by decide,?_⟩;conv=>whnf
      refine⟨rfl,?_⟩;conv=>whnf
      refine F.is hs QB _ rfl ?_;cases h3:isR s QB
      ·rw[if_neg (by simp[h3])]at hR
       conv=>whnf
       refine hI _ _ ?_;conv=>whnf
       clear hI hG;refine F.is hs kLb _ rfl ?_;cases h4:isR s kLb
       ·rw[if_neg (by simp[h4])]at hR
        conv=>whnf
        refine F.take hs kLp _ rfl ?_;have k1:=aL hs kLp;have hs1:=hs.of k1;have hr:(aD s kLp).bad=false→(aD s kLp).rem+1=s.rem:=fun h=>eO hs (ji h).2.1
        generalize aD s kLp=s1 at k1 hs1 hr hR⊢;conv=>whnf
        cases hb1:s1.bad
        ·rw[if_neg (by simp[hb1])]at hR
         have hr:=hr hb1;conv=>whnf
         rw[addN (by omega)];have ha:=(ih n (Nat.le_refl _)).type (d+1) s1 hs1 (by omega) (by omega);have hle:=(bN n).1 (d+1) s1 hs1;generalize bM n (d+1) s1=q at ha hle hR⊢;subst hR;obtain⟨⟨k',nm',ns',l'⟩,s2⟩:=q;dsimp only at ha hle⊢;refine ha.to (dD (.int _ _)) (aQ _ _) _ rfl ?_;conv=>whnf
         refine F.take (hs1.of hle) kRp _ rfl ?_;conv=>whnf
         exact⟨_,rfl,Weak.refl _,rfl⟩
        ·rw[if_pos hb1]at hR
         subst hR;conv=>whnf
         exact⟨_,rfl,iB,rfl⟩
       ·rw[if_pos h4]at hR
        conv=>whnf
        refine F.take hs kLb _ rfl ?_;have k1:=aL hs kLb;have hs1:=hs.of k1;have hr:=eO hs h4;generalize aD s kLb=s1 at k1 hs1 hr hR⊢;conv=>whnf
        intro I hI hG
        have key:∀(m:Nat) (s':RS) (names:List Bytes) (l:List TA) (e:Env),m≤n→s'.ok→6*s'.rem+4≤m→l.length=names.length→names.length+s'.rem≤2^34→R=dh m d (.mk 5 [] names l) s'→
          I (gB e [(0,.ptr 1 0),(1,.int .i64 d),(4,.ptr 2 0),(9,.ptr 4 0)]) [gI s',j6 s',.cells [.int .i64 0,.str [],.lst [] .nil,.lst [] .nil] 109,
           .cells [.int .i64 s.tok.kind,.int .i64 s.tok.at_,.str s.tok.text] 86,.cells [.int .i64 5,.str [],.lst (aO names) .none,.lst (TA.avs l) .none] 109]:=by
         intro m
         induction m with
         |zero=>intro s' names l e _ _ h;omega
         |succ m ihm=>
          intro s' names l e hm hs' hf' hl1 hl2 hv;rw[dh]at hv
          have next:∀(s2:RS) (names2:List Bytes) (l2:List TA) (e2:Env) (H2:Heap),s2.ok→6*s2.rem+4≤m→l2.length=names2.length→names2.length+s2.rem≤2^34→R=dh m d (.mk 5 [] names2 l2) s2→
            H2.take 5=[gI s2,j6 s2,.cells [.int .i64 0,.str [],.lst [] .nil,.lst [] .nil] 109,
             .cells [.int .i64 s.tok.kind,.int .i64 s.tok.at_,.str s.tok.text] 86,.cells [.int .i64 5,.str [],.lst (aO names2) .none,.lst (TA.avs l2) .none] 109]→
            fC e2 [(0,.ptr 1 0),(1,.int .i64 d),(4,.ptr 2 0),(9,.ptr 4 0)]→I e2 H2:=fun s2 names2 l2 e2 H2 c1 c2 c3 c4 c5 c6 c7=>
           hG.keep [(0,.ptr 1 0),(1,.int .i64 d),(4,.ptr 2 0),(9,.ptr 4 0)] [gI s2,j6 s2,.cells [.int .i64 0,.str [],.lst [] .nil,.lst [] .nil] 109,
             .cells [.int .i64 s.tok.kind,.int .i64 s.tok.at_,.str s.tok.text] 86,.cells [.int .i64 5,.str [],.lst (aO names2) .none,.lst (TA.avs l2) .none] 109] (Nat.le_refl 5) c6 c7 ⟨.ptr _ _ (by decide:1<5),.int _ _,.ptr _ _ (by decide:2<5),.ptr _ _ (by decide:4<5),trivial⟩
            ⟨bG _ _ _,nH (n:=5) (by decide) _,dH ⟨.int _ _,.str _,.lst _ _ trivial fK,.lst _ _ trivial fK,trivial⟩,dH ⟨.int _ _,.int _ _,.str _,trivial⟩,dH ⟨.int _ _,.str _,dQ _ _ _ trivial,.lst _ _ trivial (aY _ _),trivial⟩,trivial⟩
            (ihm s2 names2 l2 _ (by omega) c1 c2 c3 c4 c5)
          apply hI;conv=>whnf
          cases hb':s'.bad
          ·conv=>whnf
           refine F.is hs' kRb _ rfl ?_;cases hi':isR s' kRb
           ·rw[if_pos (by simp[hb',hi'])]at hv
            conv=>whnf
            refine F.name hs' _ rfl ?_;have n1:=bS hs';have n3:=lK hs' aS;obtain⟨p,hp⟩:∃p,aK s'=p:=⟨_,rfl⟩;rw[hp]at hv n1 n3⊢;have hs2:=hs'.of n1;conv=>whnf
            refine F.take hs2 aS _ rfl ?_;have n4:=aL hs2 aS;obtain⟨s3,Nb⟩:∃s3,aD p.2 aS=s3:=⟨_,rfl⟩;rw[Nb]at hv n3 n4⊢;have hs3:=hs2.of n4;conv=>whnf
            cases hb3:s3.bad
            ·rw[if_neg (by simp[hb3])]at hv
             have hr3:s3.rem+2=s'.rem:=by
              rw[←Nb,←hp];exact tC hs' aS (by rw[hp,Nb];exact hb3)
             have hle3:=n3 hb3;conv=>whnf
             refine(KA F.h85 names p.1.text (by omega) .none trivial).to ?_;cases ht:l7 names p.1.text
             case' true=>
              rw[if_pos (by exact ht)]at hv;conv=>whnf
              refine zD hs3 ⟨p.1.at_,4,p.1.text⟩ rfl rfl ?_;conv=>whnf
              rw[addN (by omega)];have hs4:=hs'.of hle3;have hq:=(ih m (by omega)).type (d+1) (gu s3 p.1) hs4 (by omega) (by show 6*s3.rem+6≤m;omega);have qM:=(bN m).1 (d+1) (gu s3 p.1) hs4;have DX:=qM.rem;have hre5:(gu s3 p.1).rem=s3.rem:=rfl;obtain⟨q,hqe⟩:∃q,bM m (d+1) (gu s3 p.1)=q:=⟨_,rfl⟩;rw[hqe]at hv hq qM DX;obtain⟨⟨k',nm',ns',l'⟩,s5⟩:=q;dsimp only at hv hq qM DX;refine hq.to (dD (.int _ _)) (aQ _ _) _ rfl ?_;have hs5:=hs4.of qM;have hv2:R=dh m d (.mk 5 [] names l) (fu s5):=hv;have hl3:l.length=names.length:=hl1;have hl4:names.length≤names.length+1:=by omega
              conv=>whnf
             case' false=>
              rw[if_neg (by rw[show TA.names (.mk 5 [] names l)=names from rfl,ht];simp)]at hv;conv=>whnf
              rw[addN (by omega)];have hq:=(ih m (by omega)).type (d+1) s3 hs3 (by omega) (by omega);have qM:=(bN m).1 (d+1) s3 hs3;have DX:=qM.rem;obtain⟨q,hqe⟩:∃q,bM m (d+1) s3=q:=⟨_,rfl⟩;rw[hqe]at hv hq qM DX;obtain⟨⟨k',nm',ns',l'⟩,s5⟩:=q;dsimp only at hv hq qM DX;refine hq.to (dD (.int _ _)) (aQ _ _) _ rfl ?_;have hs5:=hs3.of qM;conv=>whnf
              refine(Kt F.Q0 5 [] names l p.1.text (.mk k' nm' ns' l') hl1 (by omega) k' nm' ns' l' rfl).to ?_;have hv2:R=dh m d (.mk 5 [] (kg names (mH names p.1.text) p.1.text) (kg l (mH names p.1.text) (.mk k' nm' ns' l'))) (fu s5):=hv;have hl3:(kg l (mH names p.1.text) (.mk k' nm' ns' l')).length=(kg names (mH names p.1.text) p.1.text).length:=by rw[ze,ze,hl1]
              have hl4:(kg names (mH names p.1.text) p.1.text).length≤names.length+1:=by rw[ze];omega
              conv=>whnf
             all_goals
              refine F.is hs5 kRb _ rfl ?_;have hc:=Gq s5;cases hi5:isR s5 kRb
              ·rw[hi5,if_neg (by simp)]at hc
               conv=>whnf
               refine F.take hs5 gX _ rfl ?_;have n6:=aL hs5 gX;have hr6:=n6.rem;generalize aD s5 gX=s6 at n6 hc hr6⊢;have hs6:=hs5.of n6;conv=>whnf
               refine F.is hs6 kRb _ rfl ?_;cases hi6:isR s6 kRb
               ·rw[hi6,if_neg (by simp)]at hc
                rw[hc]at hv2;conv=>whnf
                exact next s6 _ _ _ _ hs6 (by omega) hl3 (by omega) hv2 rfl ⟨rfl,rfl,rfl,rfl,trivial⟩
               ·rw[hi6,if_pos rfl]at hc
                rw[hc]at hv2;conv=>whnf
                refine F.give hs6 2 _ rfl ?_;conv=>whnf
                have hr7:=(kV hs6 2).rem;exact next (cZ s6 2) _ _ _ _ (hs6.of (kV hs6 2)) (by omega) hl3 (by omega) hv2 rfl ⟨rfl,rfl,rfl,rfl,trivial⟩
              ·rw[hi5,if_pos rfl]at hc
               rw[hc]at hv2;conv=>whnf
               exact next s5 _ _ _ _ hs5 (by omega) hl3 (by omega) hv2 rfl ⟨rfl,rfl,rfl,rfl,trivial⟩
            ·rw[if_pos hb3]at hv
             subst hv;conv=>whnf
             exact⟨_,rfl,iB,rfl⟩
           ·rw[if_neg (by simp[hi'])]at hv
            subst hv;conv=>whnf
            refine F.take hs' kRb _ rfl ?_;conv=>whnf
            exact⟨_,rfl,Weak.refl _,rfl⟩
          ·rw[if_neg (by simp[hb'])]at hv
           subst hv;conv=>whnf
           refine F.take hs' kRb _ rfl ?_;conv=>whnf
           exact⟨_,rfl,Weak.refl _,rfl⟩
        refine hG.Ka [(0,.ptr 1 0),(1,.int .i64 d),(4,.ptr 2 0),(9,.ptr 4 0)] [gI s1,j6 s1,.cells [.int .i64 0,.str [],.lst [] .nil,.lst [] .nil] 109,
           .cells [.int .i64 s.tok.kind,.int .i64 s.tok.at_,.str s.tok.text] 86,.cells [.int .i64 5,.str [],.lst (aO []) .none,.lst (TA.avs []) .none] 109]
          [gI s1,j6 s1,.cells [.int .i64 0,.str [],.lst [] .nil,.lst [] .nil] 109,
           .cells [.int .i64 s.tok.kind,.int .i64 s.tok.at_,.str s.tok.text] 86,.cells [.int .i64 5,.str [],.lst [] .nil,.lst [] .nil] 109] [] rfl (Nat.le_refl _) ?_ ?_ ?_ ?_
        ·exact⟨bJ.refl _,bJ.refl _,bJ.refl _,bJ.refl _,⟨rfl,Weak.refl _,Weak.refl _,Weak.tok _ _,Weak.tok _ _,trivial⟩,trivial⟩
        ·exact uT ⟨rfl,rfl,rfl,rfl,trivial⟩ ⟨.ptr _ _ (by decide:1<5),.int _ _,.ptr _ _ (by decide:2<5),.ptr _ _ (by decide:4<5),trivial⟩
        ·exact⟨bG _ _ _,nH (n:=5) (by decide) _,dH ⟨.int _ _,.str _,.lst _ _ trivial fK,.lst _ _ trivial fK,trivial⟩,dH ⟨.int _ _,.int _ _,.str _,trivial⟩,dH ⟨.int _ _,.str _,dQ _ _ _ trivial,.lst _ _ trivial (aY _ _),trivial⟩,trivial⟩
        ·refine key n s1 [] [] _ (Nat.le_refl _) hs1 (by omega) rfl ?_ hR.symm
         have:=hs.len;unfold RS.rem at*;simp;omega
      ·rw[if_pos h3]at hR
       subst hR;conv=>whnf
       refine⟨by decide,?_⟩;conv=>whnf
       refine⟨rfl,?_⟩;conv=>whnf
       refine F.take hs QB _ rfl ?_;conv=>whnf
       exact⟨_,rfl,base 4,rfl⟩
     ·rw[if_pos h2]at hR
      subst hR;conv=>whnf
      refine⟨by decide,?_⟩;conv=>whnf
      refine⟨rfl,?_⟩;conv=>whnf
      refine F.take hs y9 _ rfl ?_;conv=>whnf
      exact⟨_,rfl,base 3,rfl⟩
    ·rw[if_pos h1]at hR
     subst hR;conv=>whnf
     refine⟨by decide,?_⟩;conv=>whnf
     refine⟨rfl,?_⟩;conv=>whnf
     refine F.take hs za _ rfl ?_;conv=>whnf
     exact⟨_,rfl,base 2,rfl⟩
   ·rw[if_pos h0]at hR
    subst hR;conv=>whnf
    refine⟨by decide,?_⟩;conv=>whnf
    refine⟨rfl,?_⟩;conv=>whnf
    refine F.take hs Iq _ rfl ?_;conv=>whnf
    exact⟨_,rfl,base 1,rfl⟩
  ·rw[if_pos (by simpa using hk)]at hR
   subst hR;conv=>whnf
   rw[addN hs.i];refine⟨_,rfl,?_,?_⟩
   ·rw[TA.av]
    exact Weak.agg ⟨Weak.refl _,Weak.refl _,Weak.tok _ _,Weak.tok _ _,trivial⟩
   ·rfl
 ·rw[if_pos hb]at hR
  subst hR;conv=>whnf
  exact⟨_,rfl,iB,rfl⟩
theorem CF (F:uF T):∀n,ED T n:=fun n=>Nat.strongRecOn n fun n ih=>by
 cases n with
 |zero=>exact⟨fun d s hs hd hf=>by omega,fun d s hs hd hf=>by omega,fun d s hs hd hf=>by omega⟩
 |succ n=>
  have ih':∀m,m≤n→ED T m:=fun m hm=>ih m (by omega)
  exact⟨fun d s hs hd hf=>PU F n ih' d s hs hd hf,fun d s hs hd hf=>NI F n ih' d s hs hd hf,fun d s hs hd hf=>MH F n ih' d s hs hd hf⟩
end Go.Ag
/- Package parse: the parser's small methods. -/
namespace Go.Ag
open Go
variable {T : Tab} {L : Lnk}
def Wq (s:RS):aU:=.cells [.lst (s.toks.map dA.av) .none,.int .i64 s.i,.lst (s.diags.map bO.av) (bK s.diags.length 0)] 280
def aW (s:RS):Heap:=[bC s.diags.length 333,Wq s]
def gup :au:=.iface 301 (.agg [])
def wX (b:Bool) (y:au):fE:=match b with
 |true=>.pan gup
 |false=>.ret y
theorem Ih {n:Nat}:Low n gup:=.iface _ _ (.agg _ fK)
theorem mW {n:Nat} {b:Bool} {y:au} (h:Low n y):Low n (wX b y).v:=by cases b<;>first|exact h|exact Ih
theorem Dt (s:RS):bI 2 (Wq s):=dH ⟨jO _ _ _ trivial,.int _ _,gM _ _ _ (dO (by omega)),trivial⟩
theorem Ac (s:RS):∀o∈aW s,bI 2 o:=fun o ho=>by
 simp only[aW,List.mem_cons,List.not_mem_nil,or_false]at ho;rcases ho with rfl|rfl
 ·exact bG _ _ _
 ·exact Dt s
def PC (L:Lnk) (f:Nat) (args:List au) (s:RS) (y:au) (s':RS):Prop:=jf L f (.ptr 1 0::args) (aW s) (wX s'.bad y) (aW s')
def aT (L:Lnk) (s':RS) (y:au) (r:fE) (H':Heap):Prop:=∃J,xH L r (wX s'.bad y)∧H'=aW s' ++J
theorem PC.of {f:Nat} {args:List au} {s s':RS} {y:au} (k:Nat) (hy:Low 2 y) (h:aC L f (.ptr 1 0::args) (aW s ++List.replicate k .dead) (aT L s' y)):PC L f args s y s':=
 jf.of k rfl (mW hy) (Ac s') (h.mono fun r H' ⟨J,e2,e3⟩=>⟨aW s',J,e2,e3,rfl,fun i o o' h1 h2=>by rw[h1]at h2;cases h2;exact bJ.refl o⟩)
theorem PC.to {f:Nat} {args:List au} {s s':RS} {y:au} (h:PC L f args s y s') (hargs:∀x∈args,Low 2 x) (hy:Low 2 y) {H:Heap} {K KP:au→Heap→Prop} (J:Heap) (hH:H=aW s ++J)
  (hk:s'.bad=false→K y (aW s' ++J)) (hb:s'.bad=true→KP gup (aW s' ++J)):aC L f (.ptr 1 0::args) H (eB K KP):=by
 subst hH;refine(jf.at h rfl (fun x hx=>?_) (Ac s) (mW hy) (Ac s') J).mono fun r H' ⟨e1,e2⟩=>?_
 ·rcases List.mem_cons.1 hx with rfl|hx
  ·exact .ptr _ _ (by show 1<2;omega)
  ·exact hargs x hx
 ·subst e1 e2
  cases e:s'.bad
  ·exact hk e
  ·exact hb e
theorem PC.go {f:Nat} {args:List au} {s s':RS} {y:au} (h:PC L f args s y s') (hs:s'.bad=false) (hargs:∀x∈args,Low 2 x) (hy:Low 2 y) {H:Heap} {K KP:au→Heap→Prop} (J:Heap) (hH:H=aW s ++J)
  (hk:K y (aW s' ++J)):aC L f (.ptr 1 0::args) H (eB K KP):=PC.to h hargs hy J hH (fun _=>hk) fun e=>by rw[hs]at e;cases e
theorem aT.ret {s':RS} {x y:au} {J H':Heap} (hs:s'.bad=false) (hw:Weak L x y) (hH:H'=aW s' ++J):aT L s' y (.ret x) H':=⟨J,by rw[hs];exact hw,hH⟩
theorem aT.pan {s':RS} {y:au} {J H':Heap} (hs:s'.bad=true) (hH:H'=aW s' ++J):aT L s' y (.pan gup) H':=⟨J,by rw[hs];exact Weak.refl _,hH⟩
theorem kU {s:RS} (h:s.bad=true) (w:Bytes):isR s w=false:=by unfold isR;rw[h];rfl
theorem Ao {s:RS} (h:s.bad=true) (c:Int):cZ s c=s:=by unfold cZ;rw[if_pos h]
theorem bL {s:RS} (h:s.bad=true) (w:Bytes):aD s w=s:=by unfold aD;rw[kU h,if_neg (by simp),Ao h]
theorem Qq {s:RS} (h:s.bad=true):aK s=(sZ,s):=by unfold aK;rw[if_pos h]
theorem uE {s:RS} (h:s.bad=true):fu s=s:=by unfold fu;rw[kU h,bL h,kU h,if_neg (by simp),if_neg (by simp)]
theorem sV :∀n:Nat,(∀(d:Nat) (s:RS),s.bad=true→(bM n d s).2=s)∧(∀(d:Nat) (l:List TA) (s:RS),s.bad=true→(jq n d l s).2=s)∧(∀(d:Nat) (s:RS),s.bad=true→(bV n d s).2=s)∧(∀(d:Nat) (s:RS),s.bad=true→(dU n d s).2=s)∧(∀(d:Nat) (out:TA) (s:RS),s.bad=true→(dh n d out s).2=s):=by
 intro n
 induction n with
 |zero=>exact⟨fun d s h=>by unfold bM;rfl,fun d l s h=>by unfold jq;rfl,fun d s h=>by unfold bV;rfl,fun d s h=>by unfold dU;rfl,fun d o s h=>by unfold dh;rfl⟩
 |succ n ih=>
  obtain⟨h1,h2,h3,h4,h5⟩:=ih;refine⟨fun d s h=>?_,fun d l s h=>?_,fun d s h=>?_,fun d s h=>?_,fun d out s h=>?_⟩
  ·unfold bM
   rw[Ao h,show(if 64<d then s else s)=s from by split<;>rfl,if_pos h]
  ·unfold jq
   rw[kU h,if_neg (by simp)]
  ·unfold bV
   rw[h4 d s h,kU h,if_neg (by simp),h4 d s h]
  ·unfold dU
   rw[if_pos h]
  ·unfold dh
   rw[h,kU h,if_neg (by simp),bL h]
structure dZ (T:Tab):Prop where
 XO:T.has 184 U7
 XD:T.has 218 UW
 XC:T.has 219 UU
 XB:T.has 220 UR
 XA:T.has 221 UQ
 Xp:T.has 248 UE
 Xo:T.has 249 UD
 Xn:T.has 250 UC
 Xm:T.has 259 UA
 Xl:T.has 260 Uz
 WZ:T.has 293 Uq
 WW:T.has 306 Un
 WV:T.has 307 Um
theorem Ak (F:dZ T) (s:RS) (hs:s.ok) (hb:s.bad=false):PC T.L 218 [] s s.tok.av s:=by
 refine PC.of 0 (nQ _ _) (aG F.XD (by simp[UW]) ?_);conv=>whnf
 refine jM hs ?_;conv=>whnf
 exact aT.ret hb (Weak.refl _) rfl
theorem dZ.here (F:dZ T) {s:RS} (hs:s.ok) (hb:s.bad=false) {H:Heap} {K KP:au→Heap→Prop} (J:Heap) (hH:H=aW s ++J) (hk:K s.tok.av (aW s ++J)):aC T.L 218 [.ptr 1 0] H (eB K KP):=
 (Ak F s hs hb).go hb fK (nQ _ _) J hH hk
theorem Sq (F:dZ T) (s:RS) (hs:s.ok) (hb:s.bad=false) (w:Bytes):PC T.L 250 [.str w] s (.bool (isR s w)) s:=by
 refine PC.of 0 (.bool _) (aG F.Xn (by simp[UC]) ?_);have hv:isR s w=((s.tok.kind==2||s.tok.kind==5)&&s.tok.text==w):=by unfold isR;rw[hb];rfl
 rw[hv];clear hv;conv=>whnf
 refine F.here hs hb _ rfl ?_;conv=>whnf
 cases s.tok.kind==2
 ·conv=>whnf
  cases s.tok.kind==5
  ·conv=>whnf
   exact aT.ret hb (Weak.refl _) rfl
  ·conv=>whnf
   exact aT.ret hb (Weak.refl _) rfl
 ·conv=>whnf
  exact aT.ret hb (Weak.refl _) rfl
theorem dZ.is (F:dZ T) {s:RS} (hs:s.ok) (hb:s.bad=false) (w:Bytes) {H:Heap} {K KP:au→Heap→Prop} (J:Heap) (hH:H=aW s ++J) (hk:K (.bool (isR s w)) (aW s ++J)):aC T.L 250 [.ptr 1 0,.str w] H (eB K KP):=
 (Sq F s hs hb w).go hb (dD (.str _)) (.bool _) J hH hk
def AP (s:RS) (w:Bytes):RS:=if isR s w then{s with i:=s.i+1}else s
theorem P7 {s:RS} {w:Bytes} (h:isR s w=true):AP s w=aD s w:=by rw[AP,if_pos h,jL h]
theorem Jj {s:RS} {w:Bytes} (h:isR s w=false):AP s w=s:=by rw[AP,if_neg (by simp[h])]
theorem P8 {s:RS} (w:Bytes):(AP s w).bad=s.bad:=by unfold AP;split<;>rfl
theorem MB (F:dZ T) (s:RS) (hs:s.ok) (hb:s.bad=false) (w:Bytes):PC T.L 221 [.str w] s (.bool (isR s w)) (AP s w):=by
 refine PC.of 0 (.bool _) (aG F.XA (by simp[UQ]) ?_);conv=>whnf
 refine F.is hs hb w _ rfl ?_;conv=>whnf
 cases h:isR s w
 ·rw[Jj h]
  conv=>whnf
  exact aT.ret hb (Weak.refl _) rfl
 ·rw[AP,if_pos h]
  conv=>whnf
  rw[addN hs.i];exact aT.ret hb (Weak.refl _) rfl
theorem dZ.take (F : dZ T) {s : RS} (hs : s.ok) (hb : s.bad = false) (w : Bytes) {H : Heap} {K KP : au → Heap → Prop} (J : Heap) (hH : H = aW s ++ J)
  (hn : isR s w = false → K (.bool false) (aW s ++ J)) (hy : isR s w = true → K (.bool true) (aW (aD s w) ++ J)) : aC T.L 221 [.ptr 1 0, .str w] H (eB K KP) :=
 (MB F s hs hb w).go (by rw [P8]; exact hb) (dD (.str _)) (.bool _) J hH (by
  cases h : isR s w
  ·rw [Jj h]; exact hn h
  ·rw [P7 h]; exact hy h)
theorem zZ {s:RS} (hs:s.ok) (d:bO) {y:au} (hy:y=d.av) {tk0:Tok} {H:Heap} {K:au→Heap→Prop} (h0:H[0]?=some (bC s.diags.length 333))
  (h:K (.lst ((s.diags ++[d]).map bO.av) (bK (s.diags ++[d]).length 0)) (H.set 0 (bC (s.diags ++[d]).length 333))):lH 3 32 333 (.lst (s.diags.map bO.av) (bK s.diags.length 0)) (.lst [y] tk0) H K:=by
 have hl:s.diags.length≤2^35:=by have:=hs.room;unfold RS.pot at this;omega
 have e1:s.diags.length=(s.diags.map bO.av).length:=by simp
 have:=dS (xs:=s.diags.map bO.av) (ys:=[y]) (k:=3) (bytes:=32) (t:=333) (id:=0) (tk0:=tk0) (H:=H) (K:=K) (qR _) (bP (by rw[hy];rfl)) (by simp;omega) (by simp;omega) (by simp) (by rw[←e1];exact h0) (by
  rw[hy];rw[List.map_append,List.length_append,e1]at h;rw[List.length_append]
  exact h)
 rw[←e1]at this;exact this
theorem Ra (F:dZ T) (s:RS) (hs:s.ok) (hb:s.bad=false) (code:Int) (y:au) (hy:Low 2 y):PC T.L 248 [.int .i64 code] s y (cZ s code):=by
 refine PC.of 0 hy (aG F.Xp (by simp[UE]) ?_);have hv:cZ s code={s with diags:=s.diags ++[⟨s.tok.at_,code,if code=2 then s.tok.text else[]⟩],bad:=true}:=by unfold cZ;rw[hb];rfl
 rw[hv];clear hv;conv=>whnf
 refine F.here hs hb _ rfl ?_;conv=>whnf
 cases h2:(code==2)
 ·rw[if_neg (by simpa using h2)]
  conv=>whnf
  refine zZ hs ⟨s.tok.at_,code,[]⟩ rfl rfl ?_;conv=>whnf
  exact aT.pan rfl rfl
 ·rw[if_pos (by simpa using h2)]
  conv=>whnf
  refine zZ hs ⟨s.tok.at_,code,s.tok.text⟩ rfl rfl ?_;conv=>whnf
  exact aT.pan rfl rfl
theorem dZ.fail (F:dZ T) {s:RS} (hs:s.ok) (hb:s.bad=false) (code:Int) {H:Heap} {K KP:au→Heap→Prop} (J:Heap) (hH:H=aW s ++J) (hk:KP gup (aW (cZ s code) ++J)):aC T.L 248 [.ptr 1 0,.int .i64 code] H (eB K KP):=
 (Ra F s hs hb code (.tup []) bH).to (dD (.int _ _)) bH J hH (fun h=>by rw[fU]at h;cases h) fun _=>hk
theorem PL (F:dZ T) (s:RS) (hs:s.ok) (hb:s.bad=false) (w:Bytes):PC T.L 260 [.str w] s (.tup []) (aD s w):=by
 refine PC.of 0 bH (aG F.Xl (by simp[Uz]) ?_);conv=>whnf
 refine F.take hs hb w _ rfl (fun h=>?_) fun h=>?_
 ·conv=>whnf
  refine F.fail hs hb 2 _ rfl ?_;conv=>whnf
  rw[aD,if_neg (by simp[h])];exact aT.pan (fU _ _) rfl
 ·conv=>whnf
  exact aT.ret (by rw[jL h];exact hb) (Weak.refl _) rfl
theorem dZ.want (F:dZ T) {s:RS} (hs:s.ok) (hb:s.bad=false) (w:Bytes) {H:Heap} {K KP:au→Heap→Prop} (J:Heap) (hH:H=aW s ++J)
  (hk:(aD s w).bad=false→K (.tup []) (aW (aD s w) ++J)) (hp:(aD s w).bad=true→KP gup (aW (aD s w) ++J)):aC T.L 260 [.ptr 1 0,.str w] H (eB K KP):=
 (PL F s hs hb w).to (dD (.str _)) bH J hH hk hp
theorem MG (F:dZ T) (s:RS) (hs:s.ok) (hb:s.bad=false):PC T.L 259 [] s (aK s).1.av (aK s).2:=by
 refine PC.of 0 (nQ _ _) (aG F.Xm (by simp[UA]) ?_);have hv:aK s=if s.tok.kind=1 then(s.tok,{s with i:=s.i+1})else(sZ,cZ s 2):=by unfold aK;rw[if_neg (by simp[hb])]
 rw[hv];clear hv;conv=>whnf
 refine F.here hs hb _ rfl ?_;conv=>whnf
 cases h:(s.tok.kind !=1)
 ·rw[if_pos (by simpa using h)]
  conv=>whnf
  rw[addN hs.i];exact aT.ret hb (Weak.refl _) rfl
 ·rw[if_neg (by simpa using h)]
  conv=>whnf
  refine F.fail hs hb 2 _ rfl ?_;conv=>whnf
  exact aT.pan (fU _ _) rfl
theorem dZ.name (F:dZ T) {s:RS} (hs:s.ok) (hb:s.bad=false) {H:Heap} {K KP:au→Heap→Prop} (J:Heap) (hH:H=aW s ++J)
  (hk:(aK s).2.bad=false→K (aK s).1.av (aW (aK s).2 ++J)) (hp:(aK s).2.bad=true→KP gup (aW (aK s).2 ++J)):aC T.L 259 [.ptr 1 0] H (eB K KP):=
 (MG F s hs hb).to fK (nQ _ _) J hH hk hp
def K8 (d:Nat) (s:RS):RS:=if 64<d then cZ s 3 else s
theorem Rj (F:dZ T) (s:RS) (hs:s.ok) (hb:s.bad=false) (d:Nat):PC T.L 219 [.int .i64 d] s (.tup []) (K8 d s):=by
 refine PC.of 0 bH (aG F.XC (by simp[UU]) ?_);conv=>whnf
 by_cases h:64<d
 ·rw[show decide ((d:Int)>64)=true from by simp;omega,K8,if_pos h]
  conv=>whnf
  refine F.fail hs hb 3 _ rfl ?_;conv=>whnf
  exact aT.pan (fU _ _) rfl
 ·rw[show decide ((d:Int)>64)=false from by simp;omega,K8,if_neg h]
  conv=>whnf
  exact aT.ret hb (Weak.refl _) rfl
theorem dZ.deep (F : dZ T) {s : RS} (hs : s.ok) (hb : s.bad = false) (d : Nat) {H : Heap} {K KP : au → Heap → Prop} (J : Heap) (hH : H = aW s ++ J)
  (hk : d ≤ 64 → K (.tup []) (aW s ++ J)) (hp : 64 < d → KP gup (aW (cZ s 3) ++ J)) : aC T.L 219 [.ptr 1 0, .int .i64 d] H (eB K KP) :=
 (Rj F s hs hb d).to (dD (.int _ _)) bH J hH (fun h => by
  unfold K8 at h ⊢
  split at h
  ·rw [fU] at h; cases h
  ·rename_i h'; rw [if_neg h']; exact hk (by omega)) fun h => by
  unfold K8 at h ⊢
  split at h
  ·rename_i h'; rw [if_pos h']; exact hp h'
  ·rw [hb] at h; cases h
end Go.Ag
/- Package parse: arrow, typ. -/
namespace Go.Ag
open Go
variable {T : Tab} {L : Lnk}
structure PTy (T:Tab) (n:Nat):Prop where
 typ:∀(d:Nat) (s:RS),s.ok→s.bad=false→d≤65→6*s.rem+6≤n→PC T.L 184 [.int .i64 d] s (bM n d s).1.av (bM n d s).2
 arrow:∀(d:Nat) (s:RS),s.ok→s.bad=false→d≤64→6*s.rem+5≤n→PC T.L 220 [.int .i64 d] s (bV n d s).1.av (bV n d s).2
 plain:∀(d:Nat) (s:RS),s.ok→s.bad=false→d≤64→6*s.rem+4≤n→PC T.L 249 [.int .i64 d] s (dU n d s).1.av (dU n d s).2
theorem J2 (F:dZ T) (n:Nat) (ih:∀m,m≤n→PTy T m) (d:Nat) (s:RS) (hs:s.ok) (hb:s.bad=false) (hd:d≤64) (hf:6*s.rem+5≤n+1):PC T.L 220 [.int .i64 d] s (bV (n+1) d s).1.av (bV (n+1) d s).2:=by
 refine PC.of 0 (aQ _ _) (aG F.XB (by simp[UR]) ?_);have hp:=(ih n (Nat.le_refl _)).plain d s hs hb hd (by omega);have hle:=(bN n).2.2.2.1 d s hs;rw[bV];generalize dU n d s=p at hp hle⊢;obtain⟨⟨k,nm,ns,l⟩,s1⟩:=p;dsimp only at hp hle⊢;have hs1:=hs.of hle;conv=>whnf
 refine hp.to (dD (.int _ _)) (aQ _ _) _ rfl (fun hb1=>?_) fun hb1=>?_
 ·conv=>whnf
  refine F.take hs1 hb1 qL _ rfl (fun hi=>?_) fun hi=>?_
  ·rw[if_neg (by simp[hi])]
   conv=>whnf
   exact aT.ret hb1 (Weak.refl _) rfl
  ·rw[if_pos hi]
   have k2:=aL hs1 qL;have hs2:=hs1.of k2;have hr:=eO hs1 hi;have hr0:=hle.rem;have hb2:(aD s1 qL).bad=false:=by rw[jL hi];exact hb1
   generalize aD s1 qL=s2 at k2 hs2 hr hb2⊢;conv=>whnf
   rw[addN (by omega)];refine F.deep hs2 hb2 (d+1) _ rfl (fun hd1=>?_) fun hd1=>?_
   ·rw[if_neg (by omega)]
    conv=>whnf
    rw[addN (by omega)];have ha:=(ih n (Nat.le_refl _)).arrow (d+1) s2 hs2 hb2 (by omega) (by omega);generalize bV n (d+1) s2=q at ha⊢;obtain⟨⟨k',nm',ns',l'⟩,s3⟩:=q;dsimp only at ha⊢;refine ha.to (dD (.int _ _)) (aQ _ _) _ rfl (fun hb3=>?_) fun hb3=>?_
    ·conv=>whnf
     refine⟨⟨rfl,trivial⟩,?_⟩;conv=>whnf
     refine aT.ret hb3 ?_ rfl;rw[TA.av];exact Weak.agg ⟨Weak.refl _,Weak.refl _,Weak.tok _ _,Weak.tok _ _,trivial⟩
    ·conv=>whnf
     exact aT.pan hb3 rfl
   ·rw[if_pos hd1]
    conv=>whnf
    exact aT.pan (fU _ _) rfl
 ·conv=>whnf
  rw[kU hb1,if_neg (by simp)];exact aT.pan hb1 rfl
def uO (m d:Nat) (l:List TA) (s:RS):TA×RS:=if isR s mI=true∨2≤l.length then(.mk 7 [] [] (jq m d l s).1,(jq m d l s).2)else(l.headD mJ,s)
theorem RV {m d:Nat} {l:List TA} {s:RS} (h:isR s mI=false):uO (m+1) d l s=if 2≤l.length then(.mk 7 [] [] l,s)else(l.headD mJ,s):=by
 unfold uO;rw[jq,if_neg (show¬isR s mI=true by simp[h])];simp[h]
theorem PZ {m d:Nat} {l:List TA} {s:RS} (h:isR s mI=true) (hl:1≤l.length):uO (m+1) d l s=uO m d (l ++[(bV m d (aD s mI)).1]) (bV m d (aD s mI)).2:=by
 unfold uO;rw[jq,if_pos h,if_pos (.inl h),if_pos (.inr (by simp;omega))]
theorem Fa {m d:Nat} {l:List TA} {s:RS} (h:s.bad=true):(uO m d l s).2=s:=by
 unfold uO;split
 ·exact(sV m).2.1 d l s h
 ·rfl
theorem PV {n d:Nat} {s:RS} (hb:s.bad=false) (hd:d≤64):bM (n+1) d s=uO n d [(bV n d s).1] (bV n d s).2:=by
 rw[bM];simp only[if_neg (show¬64<d by omega)];rw[if_neg (by simp[hb])];unfold uO;cases h:isR (bV n d s).2 mI<;>simp
theorem Ql (F:dZ T) (n:Nat) (ih:∀m,m≤n→PTy T m) (d:Nat) (s:RS) (hs:s.ok) (hb:s.bad=false) (hd:d≤65) (hf:6*s.rem+6≤n+1):PC T.L 184 [.int .i64 d] s (bM (n+1) d s).1.av (bM (n+1) d s).2:=by
 refine PC.of 1 (aQ _ _) (aG F.XO (by simp[U7]) ?_);conv=>whnf
 refine F.deep hs hb d _ rfl (fun Al=>?_) fun Al=>?_
 ·rw[PV hb Al]
  have hp:=(ih n (Nat.le_refl _)).arrow d s hs hb Al (by omega);have hle:=(bN n).2.2.1 d s hs;generalize bV n d s=p at hp hle⊢;obtain⟨⟨k,nm,ns,ll⟩,s1⟩:=p;dsimp only at hp hle⊢;have hs1:=hs.of hle;obtain⟨R,hR⟩:∃R,uO n d [.mk k nm ns ll] s1=R:=⟨_,rfl⟩;rw[hR];conv=>whnf
  refine hp.to (dD (.int _ _)) (aQ _ _) _ rfl (fun hb1=>?_) fun hb1=>?_
  ·conv=>whnf
   intro I hI hG
   have key:∀(m:Nat) (s':RS) (l:List TA) (e:Env),m≤n→s'.ok→s'.bad=false→6*s'.rem+5≤m→1≤l.length→l.length+s'.rem≤2^34→uO m d l s'=R→
     I (gB e [(0,.ptr 1 0),(1,.int .i64 d),(4,.ptr 3 0),(5,.lst (TA.avs l) (Rv 1 l.length 2))]) (aW s' ++[Rw 1 l.length 175,.cells [.int .i64 0,.str [],.lst [] .nil,.lst [] .nil] 175]):=by
    intro m
    induction m with
    |zero=>intro s' l e _ _ _ h;omega
    |succ m ihm=>
     intro s' l e hm hs' hb' hf' hl1 hl2 hv;apply hI;conv=>whnf
     refine F.take hs' hb' mI _ rfl (fun hi'=>?_) fun hi'=>?_
     ·rw[RV hi']at hv
      conv=>whnf
      rw[bY];cases hll:((l.length:Int)==1)
      ·rw[if_pos (by simp at hll;omega)]at hv
       subst hv;conv=>whnf
       refine aT.ret hb' ?_ rfl;rw[TA.av];exact Weak.agg ⟨Weak.refl _,Weak.refl _,Weak.tok _ _,Weak.tok _ _,trivial⟩
      ·rw[if_neg (by simp at hll;omega)]at hv
       subst hv;have hll:l.length=1:=by simp at hll;omega
       obtain⟨⟨k1,nm1,ns1,ll1⟩,rfl⟩:=List.length_eq_one_iff.1 hll;conv=>whnf
       refine⟨Int.le_refl _,rfl,?_⟩;conv=>whnf
       exact aT.ret hb' (Weak.refl _) rfl
     ·rw[PZ hi' hl1]at hv
      have k2:=aL hs' mI;have hs2:=hs'.of k2;have hr:=eO hs' hi';have hb2:(aD s' mI).bad=false:=by rw[jL hi'];exact hb'
      generalize aD s' mI=s2 at k2 hs2 hr hb2 hv⊢;conv=>whnf
      have ha:=(ih m (by omega)).arrow d s2 hs2 hb2 Al (by omega);have hle':=(bN m).2.2.1 d s2 hs2;generalize bV m d s2=q at ha hle' hv⊢;obtain⟨⟨k',nm',ns',l'⟩,s3⟩:=q;dsimp only at ha hle' hv⊢;refine ha.to (dD (.int _ _)) (aQ _ _) _ rfl (fun hb3=>?_) fun hb3=>?_
      ·conv=>whnf
       have e1:l.length=(TA.avs l).length:=(bY l).symm;have hr3:=hle'.rem;rw[e1];refine Gx (id:=2) (b:=1) (gL l) (bP rfl) (by rw[bY];simp;omega) (by rw[bY];simp;omega) (by simp) (by rw[bY];exact hl1) rfl ?_;conv=>whnf
       have e2:TA.avs (l ++[.mk k' nm' ns' l'])=TA.avs l ++[.agg [.int .i64 k',.str nm',.lst (aO ns') .none,.lst (TA.avs l') .none]]:=by rw[jC];rfl
       have e3:(l ++[TA.mk k' nm' ns' l']).length=(TA.avs l ++[au.agg [.int .i64 k',.str nm',.lst (aO ns') .none,.lst (TA.avs l') .none]]).length:=by rw[←e2,bY]
       have hnext:=fun e=>ihm s3 (l ++[.mk k' nm' ns' l']) e (by omega) (hs2.of hle') hb3 (by omega) (by simp) (by simp;omega) hv
       rw[e3,e2]at hnext;exact inv_of [(0,.ptr 1 0),(1,.int .i64 d),(4,.ptr 3 0),(5,_)] ⟨rfl,rfl,rfl,rfl,trivial⟩ (hnext _)
      ·have hv2:R.2=s3:=by rw[←hv,Fa hb3]
       rw[hv2];conv=>whnf
       exact aT.pan hb3 rfl
   exact inv_of [(0,.ptr 1 0),(1,.int .i64 d),(4,.ptr 3 0),(5,_)] ⟨rfl,rfl,rfl,rfl,trivial⟩ (key n s1 [.mk k nm ns ll] _ (Nat.le_refl _) hs1 hb1 (by have:=hle.rem;omega) (by simp) (by have:=hle.rem;have:=hs.len;simp[RS.rem]at*;omega) hR)
  ·have hv2:R.2=s1:=by rw[←hR,Fa hb1]
   rw[hv2];conv=>whnf
   exact aT.pan hb1 rfl
 ·rw[bM]
  simp only[if_pos Al];rw[if_pos (fU _ _)];conv=>whnf
  exact aT.pan (fU _ _) rfl
end Go.Ag
/- Package parse: fields, of whatever items. -/
namespace Go.Ag
open Go
variable {T : Tab} {L : Lnk}
def Bt :List Bytes→Bytes→Nat→Int
 |[],_,_=> -1
 |x::l,s,k=>if s==x then k else Bt l s (k+1)
theorem F7 :∀(l:List Bytes) (s:Bytes) (k:Nat),decide (Bt l s k≥0)=l7 l s
 |[],s,k=>rfl
 |x::l,s,k=>by
  rw[Bt,l7,List.any_cons,←l7,←F7 l s (k+1)];cases h:(s==x)
  ·rw[if_neg (by simp),show(x==s)=false from by rw[Bool.beq_comm];exact h,Bool.false_or]
  ·rw[if_pos rfl,show(x==s)=true from by rw[Bool.beq_comm];exact h,Bool.true_or];simp
theorem index_spec (h28:T.has 28 NC) (l:List Bytes) (s:Bytes) (hl:l.length≤2^60):Pure T.L 28 [.lst (aO l) .none,.str s] (.int .i64 (Bt l s 0)):=by
 refine Pure.run (fun y hy=>by simp only[List.mem_cons,List.not_mem_nil,or_false]at hy;rcases hy with rfl|rfl<;>first|exact dQ _ _ _ trivial|constructor) (.int _ _) (aG h28 (by simp[NC]) ?_);conv=>whnf
 intro I hI hG
 have key:∀(d k:Nat) (e:Env),l.length-k=d→k≤l.length→Bt l s 0=Bt (l.drop k) s k→I (gB e [(0,.lst (aO l) .none),(1,.str s),(7,.int .i64 (l.length:Nat)),(8,.int .i64 k)]) []:=by
  intro d
  induction d with
  |zero=>
   intro k e hd hk hv;obtain rfl:k=l.length:=by omega
   apply hI;conv=>whnf
   rw[bU (Nat.le_refl _)];conv=>whnf
   rw[hv,List.drop_length];exact aH (Weak.refl _)
  |succ d ih=>
   intro k e hd hk hv;have hlt:k<l.length:=by omega
   apply hI;conv=>whnf
   rw[dz hlt];conv=>whnf
   refine rW hlt ?_;conv=>whnf
   rw[List.drop_eq_getElem_cons hlt,Bt]at hv;cases hc:(s==l[k])
   ·conv=>whnf
    refine inv_of [(0,.lst (aO l) .none),(1,.str s),(7,.int .i64 (l.length:Nat)),(8,.int .i64 ((k+1:Nat):Int))] ⟨rfl,rfl,rfl,add1 (by omega),trivial⟩ (ih (k+1) _ (by omega) (by omega) ?_);rw[if_neg (by simp[hc])]at hv;exact hv
   ·conv=>whnf
    rw[if_pos hc]at hv;rw[hv];exact aH (Weak.refl _)
 exact inv_of [(0,.lst (aO l) .none),(1,.str s),(7,.int .i64 (l.length:Nat)),(8,.int .i64 0)] ⟨rfl,rfl,by show au.int .i64 ((aO l).length:Nat)=_;rw[fQ],rfl,trivial⟩ (key l.length 0 _ rfl (by omega) rfl)
theorem ES (DZ:T.has 318 Gu) (h28:T.has 28 NC) (l:List Bytes) (s:Bytes) (hl:l.length≤2^60):Pure T.L 318 [.lst (aO l) .none,.str s] (.bool (l7 l s)):=by
 refine Pure.run (fun y hy=>by simp only[List.mem_cons,List.not_mem_nil,or_false]at hy;rcases hy with rfl|rfl<;>first|exact dQ _ _ _ trivial|constructor) (.bool _) (aG DZ (by simp[Gu]) ?_);conv=>whnf
 refine(index_spec h28 l s hl).to ?_;conv=>whnf
 rw[show decide (Bt l s 0≥0)=l7 l s from F7 l s 0];exact aH (Weak.refl _)
variable {σ : Type}
def kZ (oo:σ→Nat→aU) (x:σ):Heap:=[oo x 0,oo x 1,oo x 2,oo x 3,oo x 4,oo x 5,oo x 6,oo x 7]
def dK (w:Bytes) (step:Nat→Bytes→σ→RS→σ×RS):Nat→List Bytes→σ→RS→σ×RS
 |0,_,x,s=>(x,s)
 |n+1,seen,x,s=>
  if !s.bad&& !isR s kRb then
   if(aD (aK s).2 w).bad then(x,aD (aK s).2 w)
   else if l7 seen (aK s).1.text then
    dK w step n seen (step n [] x (gu (aD (aK s).2 w) (aK s).1)).1 (fu (step n [] x (gu (aD (aK s).2 w) (aK s).1)).2)
   else
    dK w step n (seen ++[(aK s).1.text]) (step n (aK s).1.text x (aD (aK s).2 w)).1 (fu (step n (aK s).1.text x (aD (aK s).2 w)).2)
  else(x,aD s kRb)
theorem mE {w:Bytes} {step:Nat→Bytes→σ→RS→σ×RS} {n:Nat} {seen:List Bytes} {x:σ} {s:RS} (h:s.bad=true):dK w step n seen x s=(x,s):=by
 cases n with
 |zero=>rfl
 |succ n=>rw[dK,h,if_neg (by simp),bL h]
structure vV (T:Tab) (oo:σ→Nat→aU) (step:Nat→Bytes→σ→RS→σ×RS) (Iv:σ→List Bytes→Prop) (g:Nat) (free:List au) (N:Nat):Prop where
 FY:∀x∈free,Low 10 x
 loo:∀x i,i<8→bI 10 (oo x i)
 le:∀n nm x (s:RS),s.ok→s.le (step n nm x s).2
 none:∀n x (s:RS) seen,Iv x seen→Iv (step n [] x s).1 seen
 some:∀n nm x (s:RS) seen,Iv x seen→nm≠[]→l7 seen nm=false→(step n nm x s).2.bad=false→Iv (step n nm x s).1 (seen ++[nm])
 item:∀n nm x (s:RS) seen,n≤N→s.ok→s.bad=false→6*s.rem+8≤n→Iv x seen→seen.length+s.rem+1≤2^34→(nm=[]∨(nm≠[]∧l7 seen nm=false))→nm.length≤2^40→
  jf T.L g (.str nm::free) (aW s ++kZ oo x) (wX (step n nm x s).2.bad (.tup [])) (aW (step n nm x s).2 ++kZ oo (step n nm x s).1)
theorem kT {oo:σ→Nat→aU} (h:∀x i,i<8→bI 10 (oo x i)) (s:RS) (x:σ):∀o∈aW s ++kZ oo x,bI 10 o:=fun o ho=>by
 rcases List.mem_append.1 ho with ho|ho
 ·simp only[aW,List.mem_cons,List.not_mem_nil,or_false]at ho
  rcases ho with rfl|rfl
  ·exact bG _ _ _
  ·exact dH ⟨jO _ _ _ trivial,.int _ _,gM _ _ _ (dO (by decide)),trivial⟩
 ·simp only[kZ,List.mem_cons,List.not_mem_nil,or_false]at ho
  rcases ho with rfl|rfl|rfl|rfl|rfl|rfl|rfl|rfl<;>exact h _ _ (by decide)
theorem vV.go {oo:σ→Nat→aU} {step:Nat→Bytes→σ→RS→σ×RS} {Iv:σ→List Bytes→Prop} {g:Nat} {free:List au} {N:Nat} (O:vV T oo step Iv g free N)
  {n:Nat} {nm:Bytes} {x:σ} {s:RS} {seen:List Bytes} (h1:n≤N) (h2:s.ok) (h3:s.bad=false) (h4:6*s.rem+8≤n) (h5:Iv x seen) (h6:seen.length+s.rem+1≤2^34) (h7:nm=[]∨(nm≠[]∧l7 seen nm=false)) (h8:nm.length≤2^40)
  {H:Heap} {K KP:au→Heap→Prop} (J:Heap) (hH:H=aW s ++(kZ oo x ++J))
  (hk:(step n nm x s).2.bad=false→K (.tup []) (aW (step n nm x s).2 ++(kZ oo (step n nm x s).1 ++J))) (hp:(step n nm x s).2.bad=true→KP gup (aW (step n nm x s).2 ++(kZ oo (step n nm x s).1 ++J))):
  aC T.L g (.str nm::free) H (eB K KP):=by
 subst hH;rw[←List.append_assoc];refine(jf.at (O.item n nm x s seen h1 h2 h3 h4 h5 h6 h7 h8) rfl (fun y hy=>?_) (kT O.loo s x) (mW bH) (kT O.loo _ _) J).mono fun r H' ⟨e1,e2⟩=>?_
 ·rcases List.mem_cons.1 hy with rfl|hy
  ·exact .str _
  ·exact O.FY y hy
 ·subst e1 e2
  rw[List.append_assoc];cases e:(step n nm x s).2.bad
  ·exact hk e
  ·exact hp e
theorem Bw (F:dZ T) (DZ:T.has 318 Gu) (h28:T.has 28 NC) {oo:σ→Nat→aU} {step:Nat→Bytes→σ→RS→σ×RS} {Iv:σ→List Bytes→Prop} {g:Nat} {free:List au} {N:Nat} (O:vV T oo step Iv g free N)
  (w:Bytes) (n:Nat) (x:σ) (s:RS) (hn:n≤N) (hs:s.ok) (hb:s.bad=false) (hf:6*s.rem+7≤n) (hx:Iv x []):
  jf T.L 306 [.ptr 1 0,.str w,.fn (.func g) [] free] (aW s ++kZ oo x) (wX (dK w step n [] x s).2.bad (.tup [])) (aW (dK w step n [] x s).2 ++kZ oo (dK w step n [] x s).1):=by
 obtain⟨R,hR⟩:∃R,dK w step n [] x s=R:=⟨_,rfl⟩;rw[hR];refine jf.of 1 rfl (mW bH) (kT O.loo _ _) (aC.mono (Q:=fun r H'=>∃J,xH T.L r (wX R.2.bad (.tup []))∧H'=aW R.2 ++(kZ oo R.1 ++J)) ?_ fun r H' ⟨J,e1,e2⟩=>⟨_,J,e1,by rw[e2,List.append_assoc],rfl,fun i o o' h1 h2=>by rw[h1]at h2;cases h2;exact bJ.refl o⟩);refine aG F.WW (by simp[Un]) ?_;conv=>whnf
 intro I hI hG
 have key:∀(m:Nat) (s':RS) (y:σ) (seen:List Bytes) (b:Bool) (e:Env),m≤N→s'.ok→s'.bad=false→6*s'.rem+7≤m→Iv y seen→seen.length+s'.rem≤2^34→
   dK w step m seen y (if b then s' else fu s')=R→
   I (gB e [(0,.ptr 1 0),(1,.str w),(2,.fn (.func g) [] free),(6,.lst (aO seen) (bK (aO seen).length 10)),(7,.bool b)]) (aW s' ++(kZ oo y ++[bC (aO seen).length 10])):=by
  intro m
  induction m with
  |zero=>intro s' y seen b e _ _ _ h;omega
  |succ m ihm=>
   intro s' y seen b e hm hs' hb' hf' hy hl hv;apply hI;conv=>whnf
   refine F.is hs' hb' kRb _ rfl ?_;cases hi:isR s' kRb
   ·conv=>whnf
    have back:∀(s2:RS) (y2:σ) (yL:List Bytes) (e':Env) (H':Heap),s2.ok→s2.bad=false→6*s2.rem+7≤m→Iv y2 yL→yL.length+s2.rem≤2^34→dK w step m yL y2 (fu s2)=R→
      H'.take 11=aW s2 ++(kZ oo y2 ++[bC (aO yL).length 10])→
      fC e' [(0,.ptr 1 0),(1,.str w),(2,.fn (.func g) [] free),(6,.lst (aO yL) (bK (aO yL).length 10)),(7,.bool false)]→I e' H':=fun s2 y2 yL e' H' a1 a2 a3 a4 a5 a6 a7 a8=>
     hG.keep _ (aW s2 ++(kZ oo y2 ++[bC (aO yL).length 10])) (Nat.le_refl 11) a7 a8
      ⟨.ptr _ _ (by decide:1<11),.str _,.fn _ _ _ fK (fun z hz=>(O.FY z hz).mono (by decide:10≤11)),dQ _ _ _ (dO (by decide:10<11)),.bool _,trivial⟩
      ⟨bG _ _ _,dH ⟨jO _ _ _ trivial,.int _ _,gM _ _ _ (dO (by decide:0<11)),trivial⟩,aI (by decide:10≤11) (O.loo _ 0 (by decide)),aI (by decide:10≤11) (O.loo _ 1 (by decide)),aI (by decide:10≤11) (O.loo _ 2 (by decide)),aI (by decide:10≤11) (O.loo _ 3 (by decide)),
       aI (by decide:10≤11) (O.loo _ 4 (by decide)),aI (by decide:10≤11) (O.loo _ 5 (by decide)),aI (by decide:10≤11) (O.loo _ 6 (by decide)),aI (by decide:10≤11) (O.loo _ 7 (by decide)),bG _ _ _,trivial⟩
      (ihm s2 y2 yL false _ (by omega) a1 a2 a3 a4 a5 a6)
    have sized:=fun(l:List Bytes)=>iY l
    cases b
    case' false=>
     conv=>whnf
     refine F.want hs' hb' gX _ rfl (fun hb2=>?_) (fun hb2=>by
      have hv2:R=(y,aD s' gX):=by
       rw[←hv,show(if false=true then s' else fu s')=aD s' gX from by unfold fu;simp[hi,kU hb2],mE hb2]
      rw[hv2];conv=>whnf
      exact⟨_,by dsimp only;rw[hb2];exact Weak.refl _,rfl⟩)
     have hle2:=aL hs' gX;have hs2:=hs'.of hle2;have hr2:=hle2.rem
     have hm1:isR (aD s' gX) kRb=false→dK w step (m+1) seen y (aD s' gX)=R:=fun h=>by
      rw[←hv,show(if false=true then s' else fu s')=aD s' gX from by unfold fu;simp[hi,h]]
     have hm2:isR (aD s' gX) kRb=true→R=(y,cZ (aD s' gX) 2):=fun h=>by
      rw[←hv,show(if false=true then s' else fu s')=cZ (aD s' gX) 2 from by unfold fu;simp[hi,h],mE (fU _ _)]
     generalize aD s' gX=s2 at hle2 hs2 hr2 hb2 hm1 hm2⊢
    case' true=>
     have hm1:isR s' kRb=false→dK w step (m+1) seen y s'=R:=fun h=>hv
     have hm2:isR s' kRb=true→R=(y,cZ s' 2):=fun h=>by rw[hi]at h;cases h
     have hs2:=hs';have hb2:=hb';have hr2:=Nat.le_refl s'.rem;obtain⟨s2,Zj⟩:∃s2,s2=s':=⟨_,rfl⟩;rw[←Zj]at hs2 hb2 hm1 hm2;rw[←Zj];replace hr2:s2.rem≤s'.rem:=by rw[Zj];exact Nat.le_refl _
    all_goals
     clear hv;conv=>whnf
     refine F.name hs2 hb2 _ rfl (fun hb3=>?_) (fun hb3=>by
      have hv2:R=(y,(aK s2).2):=by
       have hnk:¬s2.tok.kind=1:=fun hk=>by
        rw[aK,if_neg (by simp[hb2]),if_pos hk]at hb3;exact absurd (hb3.symm.trans hb2) (by decide)
       have hne:(aK s2).2=cZ s2 2:=by rw[aK,if_neg (by simp[hb2]),if_neg hnk]
       cases hkr:isR s2 kRb
       ·rw[←hm1 hkr,dK,hb2,hkr,if_pos (by simp),hne,bL (fU _ _),if_pos (fU _ _)]
       ·rw[hm2 hkr,hne]
      rw[hv2];conv=>whnf
      exact⟨_,by dsimp only;rw[hb3];exact Weak.refl _,rfl⟩)
     obtain⟨_,hk1,hnr⟩:=qo hb3;have hkr:isR s2 kRb=false:=QA hk1 kRb;have hv:=hm1 hkr;rw[dK,hb2,hkr,if_pos (by simp)]at hv;clear hm1 hm2;have htw:=lK hs2 w;have htr:=tC hs2 w;have hle3:=bS hs2;have hmem:s2.tok∈s2.toks:=List.mem_of_getElem? (uP hs2);have htxt:=hs2.txt _ hmem;have hnm:=hs2.named _ hmem hk1;rw[hnr]at hv htw htr hle3⊢;dsimp only at hv htw htr hle3⊢;clear hb3;have hb3:({s2 with i:=s2.i+1}:RS).bad=false:=hb2;generalize s2.tok=t at hk1 hv htw htr htxt hnm⊢;have hs3:=hs2.of hle3;have hr3:=hle3.rem;generalize ({s2 with i:=s2.i+1}:RS)=s3 at hv htw htr hle3 hs3 hr3 hb3⊢;conv=>whnf
     refine F.want hs3 hb3 w _ rfl (fun hb4=>?_) (fun hb4=>by
      rw[if_pos hb4]at hv;subst hv;conv=>whnf
      exact⟨_,by dsimp only;rw[hb4];exact Weak.refl _,rfl⟩)
     rw[if_neg (by simp[hb4])]at hv;have htw:=htw hb4;have htr:=htr hb4;have qM:=aL hs3 w;have hs4:=hs3.of qM;generalize aD s3 w=s4 at hv htw htr qM hs4 hb4⊢;conv=>whnf
     refine((ES DZ h28 seen t.text (by omega)).weak (args:=[.lst (aO seen) (bK (aO seen).length 10),.str t.text]) ⟨Weak.tok _ _,Weak.refl _,trivial⟩).to ?_;cases hc:l7 seen t.text
     ·rw[if_neg (by simp[hc])]at hv
      conv=>whnf
      have hsl:=fQ seen;refine dS (id:=10) (iY seen) (bP rfl) (by simp[hsl];omega) (by simp[hsl];omega) (by simp) rfl ?_;conv=>whnf
      refine O.go (n:=m) (seen:=seen) (by omega) hs4 hb4 (by omega) hy (by omega) (.inr ⟨hnm,hc⟩) htxt _ rfl (fun hb5=>?_) fun hb5=>?_
      ·conv=>whnf
       have Tn:=O.le m t.text y s4 hs4;have hr5:=Tn.rem;have e2:aO (seen ++[t.text])=aO seen ++[.str t.text]:=by simp[aO]
       have hbk:=fun e' H'=>back _ _ (seen ++[t.text]) e' H' (hs4.of Tn) hb5 (by omega) (O.some m t.text y s4 seen hy hnm hc hb5) (by simp;omega) hv
       rw[e2]at hbk;exact hbk _ _ rfl ⟨rfl,rfl,rfl,rfl,rfl,trivial⟩
      ·rw[uE hb5,mE hb5]at hv
       subst hv;conv=>whnf
       exact⟨_,by dsimp only;rw[hb5];exact Weak.refl _,rfl⟩
     ·rw[if_pos hc]at hv
      conv=>whnf
      refine zZ hs4 ⟨t.at_,4,t.text⟩ rfl rfl ?_;conv=>whnf
      have hs6:=hs2.of htw;have hr6:=htw.rem;have hb6:(gu s4 t).bad=false:=hb4;have hr7:(gu s4 t).rem=s4.rem:=rfl;refine O.go (n:=m) (s:=gu s4 t) (nm:=[]) (seen:=seen) (by omega) hs6 hb6 (by omega) hy (by omega) (.inl rfl) (by simp) _ rfl (fun hb5=>?_) fun hb5=>?_
      ·conv=>whnf
       have Tn:=O.le m [] y (gu s4 t) hs6;have hr5:=Tn.rem;exact back _ _ seen _ _ (hs6.of Tn) hb5 (by omega) (O.none m y _ seen hy) (by omega) hv rfl ⟨rfl,rfl,rfl,rfl,rfl,trivial⟩
      ·rw[uE hb5,mE hb5]at hv
       subst hv;conv=>whnf
       exact⟨_,by dsimp only;rw[hb5];exact Weak.refl _,rfl⟩
   ·conv=>whnf
    rw[addN hs'.i]
    have hv2:R=(y,aD s' kRb):=by
     rw[←hv,show(if b=true then s' else fu s')=s' from by cases b<;>simp[fu,hi],dK,hi,if_neg (by simp)]
    rw[hv2,jL hi];exact⟨_,by dsimp only;rw[hb'];exact Weak.refl _,rfl⟩
 exact inv_of [(0,.ptr 1 0),(1,.str w),(2,.fn (.func g) [] free),(6,.lst [] .nil),(7,.bool true)] ⟨rfl,rfl,rfl,rfl,rfl,trivial⟩ (key n s x [] true _ hn hs hb hf hx (by have:=hs.len;simp[RS.rem];omega) hR)
end Go.Ag
/- A row that could be written, at a call's end: nobody will write it any more, it is a list by content. -/
namespace Go.Ag
open Go
variable {L : Lnk}
def VG (L:Lnk) (id k:Nat) (xs:List au) (g:aA):Prop:=∀u,Rep L g u (.vec id xs.length k 0 xs.length)→Rep L g u (.lst xs .none)
theorem St.freeze {g:aA} {w:World} {H:Heap} (h:St L g w H) {id t:Nat} {xs:List au} (hid:H[id]?=some (.arr xs.length xs t)) (k:Nat):
  ∃g',g.le g'∧St L g' w (H.set id .gone)∧VG L id k xs g':=by
 obtain⟨s,vs,e1,e0,e2,e3,e4,e5,e6,e7,e8,e9,e10⟩:=h.obj id _ hid;have hf:∀o,0≤o→o<0+(vs.toList.take (xs.length*s.k)).length→g.fz s.b o=none:=fun o _ _=>e9 o
 have hle:=aA.nX (g:=g) e10.2 hf
 have hlt:id<H.length:=by
  rcases Nat.lt_or_ge id H.length with h'|h'
  ·exact h'
  ·rw[List.getElem?_eq_none h']at hid;cases hid
 have hw:St L g w (H.set id .gone):=h.weak (by simp) fun i o o' ho ho'=>by
  rw[List.getElem?_set]at ho';split at ho'
  ·rename_i he
   subst he;cases ho';cases o<;>exact trivial
  ·rw[ho]at ho';cases ho';exact bJ.refl o
 have hcell:∀j v,(vs.toList.take (xs.length*s.k))[j]?=some v→w.cell? ⟨s.b,0+j,none⟩=some v:=fun j v hv=>by
  rw[List.getElem?_take]at hv;split at hv
  ·simp only[World.cell?,e4,Nat.zero_add]
   simpa using hv
  ·cases hv
 refine⟨g.jc s.b 0 (vs.toList.take (xs.length*s.k)),hle,hw.pO e10.2 hf hcell (fun i o s' ho ha hs hb=>?_),fun u hu=>?_⟩
 ·rw[List.getElem?_set]at ho
  split at ho
  ·rename_i he
   subst he;cases ho;cases ha
  ·rename_i hne
   exact hne (h.inj id i _ o s s' hid ho rfl ha e1 hs hb.symm)
 ·cases hu with
  |vec _ _ _ _ _ c s' h1 hk hc hz=>
   have:s'=s:=by
    have h2:=hle.ob _ _ _ e1;rw[h2]at h1;exact(Option.some.inj h1).symm
   subst this;refine .lst _ c k s'.b 0 xs (vs.toList.take (xs.length*s'.k)) .none (fun _=>by rw[Nat.zero_mul]) (fun j v hv=>?_) (fun x hx=>by rw[e6 x hx,hk]) hc trivial (e8.mono hle);exact aA.qj _ _ _ _ j v hv
def ow (Φ:aA→Prop) (L:Lnk) (x y:au):Prop:=∀g,Φ g→∀v,Rep L g v x→Rep L g v y
def NJ (Φ:aA→Prop) (L:Lnk):List au→List au→Prop
 |[],[]=>True
 |x::xs,y::ys=>ow Φ L x y∧NJ Φ L xs ys
 |_,_=>False
def ZP (Φ:aA→Prop) (L:Lnk):fE→fE→Prop
 |.ret x,.ret y=>ow Φ L x y
 |.pan x,.pan y=>ow Φ L x y
 |_,_=>False
theorem ow.refl {Φ:aA→Prop} (x:au):ow Φ L x x:=fun _ _ _ h=>h
theorem ow.of {Φ:aA→Prop} {x y:au} (h:Weak L x y):ow Φ L x y:=fun _ _ _ hv=>h _ _ hv
theorem ow.froze {id k:Nat} {xs:List au}:ow (VG L id k xs) L (.vec id xs.length k 0 xs.length) (.lst xs .none):=fun _ hg _ hv=>hg _ hv
theorem aX.weakG {Φ:aA→Prop} {g:aA} (hg:Φ g) {vs:List Value} {xs ys:List au} (h:aX L g vs xs) (hw:NJ Φ L xs ys):aX L g vs ys:=by
 induction xs generalizing vs ys with
 |nil=>cases ys with
  |nil=>exact h
  |cons=>exact False.elim hw
 |cons x xs ih=>cases ys with
  |nil=>exact False.elim hw
  |cons y ys=>cases h with|cons _ _ _ _ h hs=>exact .cons _ _ _ _ (hw.1 _ hg _ h) (ih hs hw.2)
theorem ow.agg {Φ:aA→Prop} {xs ys:List au} (h:NJ Φ L xs ys):ow Φ L (.agg xs) (.agg ys):=fun g hg v hv=>by
 cases hv with|agg vs _ hr=>exact .agg vs _ (hr.weakG hg h)
theorem aC.freeze {f : Nat} {args : List au} {H : Heap} {Q : fE → Heap → Prop}
  (h : aC L f args H fun r H' => Q r H' ∨ ∃ id xs t k r', H'[id]? = some (.arr xs.length xs t) ∧ ZP (VG L id k xs) L r r' ∧ Q r' (H'.set id .gone)) : aC L f args H Q := fun g w vs hs hr =>
 (h g w vs hs hr).mono fun e w' ⟨r, H', g', hq, hle, hst, hrep⟩ => by
  rcases hq with hq | ⟨id, xs, t, k, r', h1, h2, h3⟩
  ·exact ⟨r, H', g', hq, hle, hst, hrep⟩
  ·obtain ⟨g2, k1, k2, k3⟩ := hst.freeze h1 k
   refine ⟨r', _, g2, h3, hle.trans k1, k2, ?_⟩
   cases r with
   | ret x =>
    cases r' with
    | ret y => obtain ⟨v, rfl, hv⟩ := hrep; exact ⟨v, rfl, h2 _ k3 _ (hv.mono k1)⟩
    | pan y => exact h2.elim
   | pan x =>
    cases r' with
    | ret y => exact h2.elim
    | pan y => obtain ⟨v, rfl, hv⟩ := hrep; exact ⟨v, rfl, h2 _ k3 _ (hv.mono k1)⟩
end Go.Ag
/- Package parse: a record type's fields. -/
namespace Go.Ag
open Go
variable {T : Tab} {L : Lnk}
def Cy (xs:List au) (k id:Nat):au:=match xs with
 |[]=>.lst [] .nil
 |_::_=>.vec id xs.length k 0 xs.length
def EI (xs:List au) (t:Nat):aU:=match xs with
 |[]=>.dead
 |_::_=>.arr xs.length xs t
theorem yD {xs:List au} (h:xs≠[]) (k id:Nat):Cy xs k id=.vec id xs.length k 0 xs.length:=by cases xs with
 |nil=>exact absurd rfl h
 |cons=>rfl
theorem yE {xs:List au} (h:xs≠[]) (t:Nat):EI xs t=.arr xs.length xs t:=by cases xs with
 |nil=>exact absurd rfl h
 |cons=>rfl
theorem Pv {k bytes t id:Nat} {xs ys:List au} {tk0:Tok} {H:Heap} {K:au→Heap→Prop} (hx:dB k xs) (hy:dB k ys) (hb:(xs.length+ys.length)*bytes≤2^46) (hl:xs.length+ys.length≤2^46) (hne:ys≠[])
  (hid:H[id]?=some (EI xs t)) (h:K (.vec id (xs ++ys).length k 0 (xs ++ys).length) (H.set id (.arr (xs ++ys).length (xs ++ys) t))):lH k bytes t (Cy xs k id) (.lst ys tk0) H K:=by
 cases xs with
 |nil=>
  rw[show Cy [] k id=.lst [] .nil from rfl];unfold lH;refine⟨hx,hy,hb,hl,?_⟩;rw[if_neg hne];exact .inr (.inr (.inl ⟨id,hid,h⟩))
 |cons x xs=>
  rw[yD (List.cons_ne_nil _ _)];rw[yE (List.cons_ne_nil _ _)]at hid;unfold lH;rw[List.length_append]at h;refine⟨hy,⟨rfl,rfl,hne⟩,hb,hl,?_⟩;rw[hid];refine⟨⟨rfl,Nat.le_refl _,rfl,hx⟩,(x::xs).length+ys.length,Nat.lt_add_of_pos_right (List.length_pos_iff.2 hne),?_⟩;rw[List.take_length];exact h
def cu :List (Bytes×TA)→Nat→List (au×au×Nat)
 |[],_=>[]
 |p::l,k=>(.str p.1,p.2.av,k)::cu l (k+1)
theorem uD :∀(l:List (Bytes×TA)) (p:Bytes×TA) (k:Nat),cu (l ++[p]) k=cu l k ++[(.str p.1,p.2.av,k+l.length)]
 |[],p,k=>rfl
 |q::l,p,k=>by
  rw[List.cons_append,cu,uD l p (k+1),cu,List.cons_append,List.length_cons,show k+1+l.length=k+(l.length+1)from by omega]
theorem Gh :∀(l:List (Bytes×TA)) (nm:Bytes) (k i:Nat),qy 1 (.str nm) (cu l k) i=some ((l.findIdx? (·.1==nm)).map fun j=>(i+j,((l.find? (·.1==nm)).map (·.2.av)).getD .undef))
 |[],nm,k,i=>rfl
 |p::l,nm,k,i=>by
  rw[cu,qy,DJ];cases h:(nm==p.1)
  ·dsimp only
   rw[Gh l nm (k+1) (i+1),List.findIdx?_cons,List.find?_cons,show(p.1==nm)=false from by rw[Bool.beq_comm];exact h]
   cases l.findIdx? (·.1==nm)with
   |none=>rfl
   |some j=>simp;omega
  ·dsimp only
   rw[List.findIdx?_cons,List.find?_cons,show(p.1==nm)=true from by rw[Bool.beq_comm];exact h];rfl
theorem Nl {l:List (Bytes×TA)} {nm:Bytes} (h:l7 (l.map (·.1)) nm=false) (k i:Nat):qy 1 (.str nm) (cu l k) i=some none:=by
 rw[Gh]
 have:l.findIdx? (·.1==nm)=none:=by
  rw[List.findIdx?_eq_none_iff];intro p hp;simp only[l7,List.any_map,List.any_eq_false]at h;simpa using h p hp
 rw[this];rfl
theorem Sm {kk:Nat} {H:Heap} {id c:Nat} {k v:au} {es:List (au×au×Nat)} (h:H[id]?=some (.map es c)) (hf:qy kk k es 0=some none):yO kk H (.map id) k v=some (H.set id (.map (es ++[(k,v,c)]) (c+1))):=by
 simp only[yO,h,hf]
def iG (x:List (Bytes×TA)):List au:=aO (x.map (·.1))
def Cr :List au:=[.int .i64 0,.str [],.lst [] .nil,.lst [] .nil]
def Mw (d:Nat) (x:List (Bytes×TA)):Nat→aU
 |0=>EI (iG x) 10
 |1=>.dead
 |2=>.cells [.ptr 1 0] 225
 |3=>.cells [.int .i64 d] 4
 |4=>.cells Cr 175
 |5=>.cells [Cy (iG x) 1 2] 43
 |6=>.map (cu x 0) x.length
 |7=>.cells [.map 8] 231
 |_=>.dead
def nM (d n:Nat) (nm:Bytes) (x:List (Bytes×TA)) (s:RS):List (Bytes×TA)×RS:=
 (if nm=[]∨(bM n (d+1) s).2.bad=true then x else x ++[(nm,(bM n (d+1) s).1)],(bM n (d+1) s).2)
theorem Hz (F:dZ T) {N:Nat} (ih:∀m,m≤N→PTy T m) (d:Nat) (hd:d≤64) (n:Nat) (nm:Bytes) (x:List (Bytes×TA)) (s:RS) (hn:n≤N) (hs:s.ok) (hb:s.bad=false) (hf:6*s.rem+6≤n)
  (hl:x.length+s.rem+1≤2^34) (hnm:nm=[]∨(nm≠[]∧l7 (x.map (·.1)) nm=false)):
  aC T.L 307 [.str nm,.ptr 4 0,.ptr 5 0,.ptr 7 0,.ptr 9 0] (aW s ++kZ (Mw d) x) fun r H'=>∃J,xH T.L r (wX (nM d n nm x s).2.bad (.tup []))∧H'=aW (nM d n nm x s).2 ++(kZ (Mw d) (nM d n nm x s).1 ++J):=by
 refine aG F.WV (by simp[Um]) ?_;have ht:=(ih n hn).typ (d+1) s hs hb (by omega) hf;unfold nM;have hle:=(bN n).1 (d+1) s hs;generalize bM n (d+1) s=q at ht hle⊢;obtain⟨⟨k',nm',ns',l'⟩,s1⟩:=q;dsimp only at ht hle⊢;conv=>whnf
 rw[addN (by omega)];refine ht.to (dD (.int _ _)) (aQ _ _) _ rfl (fun hb1=>?_) fun hb1=>?_
 ·conv=>whnf
  rcases hnm with rfl|⟨hne,hnew⟩
  ·rw[if_pos (.inl rfl)]
   conv=>whnf
   exact⟨_,by rw[hb1];exact Weak.refl _,rfl⟩
  ·rw[if_neg (fun h=>h.elim hne fun h=>absurd (hb1.symm.trans h) (by decide))]
   rw[show(nm==([]:Bytes))=false from by simpa using hne];have hsz:(iG x).length=x.length:=by simp[iG,aO]
   have hr1:=hle.rem;have e1:iG (x ++[(nm,TA.mk k' nm' ns' l')])=iG x ++[.str nm]:=by simp[iG,aO]
   have e2:cu (x ++[(nm,TA.mk k' nm' ns' l')]) 0=cu x 0 ++[(.str nm,(TA.mk k' nm' ns' l').av,x.length)]:=by rw[uD,Nat.zero_add]
   have e3:(x ++[(nm,TA.mk k' nm' ns' l')]).length=x.length+1:=by simp
   have hH:∀J:Heap,kZ (Mw d) (x ++[(nm,TA.mk k' nm' ns' l')]) ++J=[.arr (iG x ++[au.str nm]).length (iG x ++[au.str nm]) 10,.dead,.cells [.ptr 1 0] 225,.cells [.int .i64 d] 4,.cells Cr 175,.cells [.vec 2 (iG x ++[au.str nm]).length 1 0 (iG x ++[au.str nm]).length] 43,
     .map (cu x 0 ++[(.str nm,(TA.mk k' nm' ns' l').av,x.length)]) (x.length+1),.cells [.map 8] 231] ++J:=fun J=>by
    have hn:iG x ++[au.str nm]≠[]:=by simp
    rw[←yD hn,←yE hn,←e1,←e2,←e3];rfl
   have hfind:=Nl hnew 0 0
   have happ:∀{tk0:Tok} {H:Heap} {K:au→Heap→Prop},H[2]?=some (EI (iG x) 10)→K (.vec 2 (iG x ++[au.str nm]).length 1 0 (iG x ++[au.str nm]).length) (H.set 2 (.arr (iG x ++[au.str nm]).length (iG x ++[au.str nm]) 10))→lH 1 16 10 (Cy (iG x) 1 2) (.lst [.str nm] tk0) H K:=
    fun h1 h2=>Pv (iY _) (bP rfl) (by rw[hsz];simp;omega) (by rw[hsz];simp;omega) (by simp) h1 h2
   have hH0:kZ (Mw d) x=[EI (iG x) 10,.dead,.cells [.ptr 1 0] 225,.cells [.int .i64 d] 4,.cells Cr 175,.cells [Cy (iG x) 1 2] 43,.map (cu x 0) x.length,.cells [.map 8] 231]:=rfl;rw[hH0];simp only[hH];generalize cu x 0=E at hfind⊢;generalize iG x=XS at happ⊢;clear hH0 hH e1 e2 e3;cases XS
   all_goals
    conv=>whnf
    refine happ rfl ?_;conv=>whnf
    rw[Sm (es:=E) (c:=x.length) ?_ hfind]
    ·conv=>whnf
     exact⟨_,by rw[hb1];exact Weak.refl _,rfl⟩
    ·rfl
 ·rw[if_pos (.inr hb1)]
  conv=>whnf
  exact⟨_,by rw[hb1];exact Weak.refl _,rfl⟩
end Go.Ag
/- Package parse: the fields of a record type, sorted: as the document's reader has them. -/
namespace Go.Ag
open Go
theorem pF :∀(x y:Bytes),bytesLess x y=decide (x<y)
 |[],[]=>by simp[bytesLess]
 |_::_,[]=>by simp[bytesLess]
 |[],_::_=>by simp[bytesLess]
 |a::x,b::y=>by
  rw[bytesLess,pF x y];simp only[List.cons_lt_cons_iff]
  by_cases h1:a<b<;>by_cases h2:a=b<;>by_cases h3:x<y<;>simp[h1,h2,h3]
def mZ (l:List Bytes):List Bytes:=l.mergeSort fun x y=>decide (x≤y)
theorem tK (l:List Bytes):(mZ l).Perm l:=List.mergeSort_perm l _
theorem Hf (l:List Bytes):(mZ l).Pairwise (· ≤ ·):=(List.pairwise_mergeSort (le:=fun x y=>decide (x≤y)) (fun a b c h1 h2=>by simp at*;exact List.le_trans h1 h2) (fun a b=>by simp;exact List.le_total a b) l).imp (by simp)
theorem He {l m:List Bytes} (hp:m.Perm l) (hs:m.Pairwise (· < ·)):mZ l=m:=
 List.Perm.eq_of_pairwise (le:=(· ≤ ·)) (fun a b _ _ h1 h2=>List.le_antisymm h1 h2) (Hf l) (hs.imp fun h=>List.le_of_lt h) ((tK l).trans hp.symm)
variable {α : Type}
def Ku (l:List (Bytes×α)) (p:Bytes×α):List (Bytes×α):=kg l (mH (l.map (·.1)) p.1) p
def Dh (x:List (Bytes×α)):List (Bytes×α):=x.foldl Ku []
theorem OE (l:List (Bytes×α)) (p:Bytes×α):Ku l p=l.takeWhile (fun q=>bytesLess q.1 p.1) ++[p] ++l.dropWhile (fun q=>bytesLess q.1 p.1):=by
 have h1:mH (l.map (·.1)) p.1=(l.takeWhile (fun q=>bytesLess q.1 p.1)).length:=by
  unfold mH;rw[List.takeWhile_map,List.length_map];rfl
 unfold Ku kg;rw[h1];have h2:l=l.takeWhile (fun q=>bytesLess q.1 p.1) ++l.dropWhile (fun q=>bytesLess q.1 p.1):=List.takeWhile_append_dropWhile.symm
 have h3:l.take (l.takeWhile (fun q=>bytesLess q.1 p.1)).length=l.takeWhile (fun q=>bytesLess q.1 p.1):=by
  conv=>lhs;rw[h2]
  rw[←h2];conv=>lhs;arg 2;rw[h2]
  rw[List.take_left]
 have h4:l.drop (l.takeWhile (fun q=>bytesLess q.1 p.1)).length=l.dropWhile (fun q=>bytesLess q.1 p.1):=by
  conv=>lhs;arg 2;rw[h2]
  rw[List.drop_left]
 rw[h3,h4]
theorem QF (l:List (Bytes×α)) (p:Bytes×α):(Ku l p).Perm (l ++[p]):=by
 rw[OE];have h2:l=l.takeWhile (fun q=>bytesLess q.1 p.1) ++l.dropWhile (fun q=>bytesLess q.1 p.1):=List.takeWhile_append_dropWhile.symm;conv=>rhs;rw[h2]
 rw[List.append_assoc,List.append_assoc];exact List.Perm.append_left _ List.perm_append_comm
theorem MU {β:Type} {p:β→Bool}:∀{l:List β} {a:β},a∈l.takeWhile p→p a=true
 |[],a,h=>by simp at h
 |b::l,a,h=>by
  rw[List.takeWhile_cons]at h;split at h
  ·rename_i hb
   rcases List.mem_cons.1 h with rfl|h
   ·exact hb
   ·exact MU h
  ·cases h
theorem Br {l:List (Bytes×α)} {p:Bytes×α} (h:l.Pairwise fun a b=>a.1<b.1) (hn:∀q∈l,q.1≠p.1):(Ku l p).Pairwise fun a b=>a.1<b.1:=by
 rw[OE];have h2:l=l.takeWhile (fun q=>bytesLess q.1 p.1) ++l.dropWhile (fun q=>bytesLess q.1 p.1):=List.takeWhile_append_dropWhile.symm
 have hlt:∀a∈l.takeWhile (fun q=>bytesLess q.1 p.1),a.1<p.1:=fun a ha=>by
  have:=MU ha;rw[pF]at this;simpa using this
 have hgt:∀b∈l.dropWhile (fun q=>bytesLess q.1 p.1),p.1<b.1:=by
  have hsub:(l.dropWhile (fun q=>bytesLess q.1 p.1)).Sublist l:=List.dropWhile_sublist _;have hp:(l.dropWhile (fun q=>bytesLess q.1 p.1)).Pairwise fun a b=>a.1<b.1:=h.sublist hsub
  have hd:∀(h0:l.dropWhile (fun q=>bytesLess q.1 p.1)≠[]),bytesLess ((l.dropWhile (fun q=>bytesLess q.1 p.1)).head h0).1 p.1=false:=fun h0=>by
   have:=List.head_dropWhile_not (fun q:Bytes×α=>bytesLess q.1 p.1) (l:=l) h0;simpa using this
  have hm:∀q∈l.dropWhile (fun q=>bytesLess q.1 p.1),q.1≠p.1:=fun q hq=>hn q (hsub.subset hq)
  generalize l.dropWhile (fun q=>bytesLess q.1 p.1)=dw at hp hd hm
  cases dw with
  |nil=>intro b hb;cases hb
  |cons b0 dw=>
   have h0:=hd (by simp);rw[pF]at h0
   have h1:p.1<b0.1:=by
    have h3:¬b0.1<p.1:=of_decide_eq_false h0;rcases Decidable.em (p.1<b0.1)with h|h
    ·exact h
    ·exact absurd (List.le_antisymm (List.not_lt.1 h) (List.not_lt.1 h3)) (hm b0 (by simp))
   intro b hb;rcases List.mem_cons.1 hb with rfl|hb
   ·exact h1
   ·exact List.lt_trans h1 ((List.pairwise_cons.1 hp).1 b hb)
 rw[List.append_assoc,List.pairwise_append];refine⟨h.sublist (List.takeWhile_sublist _),?_,fun a ha b hb=>?_⟩
 ·rw[List.singleton_append,List.pairwise_cons]
  exact⟨hgt,h.sublist (List.dropWhile_sublist _)⟩
 ·rw[List.singleton_append]at hb
  rcases List.mem_cons.1 hb with rfl|hb
  ·exact hlt a ha
  ·exact List.lt_trans (hlt a ha) (hgt b hb)
theorem uZ (x:List (Bytes×α)) (p:Bytes×α):Dh (x ++[p])=Ku (Dh x) p:=by unfold Dh;rw[List.foldl_append];rfl
theorem Oh {α:Type} {P:List α→Prop} (h0:P []) (h1:∀l a,P l→P (l ++[a])) (l:List α):P l:=by
 have:∀l:List α,P l.reverse:=fun l=>by
  induction l with
  |nil=>exact h0
  |cons a l ih=>rw[List.reverse_cons];exact h1 _ _ ih
 have h:=this l.reverse;rwa[List.reverse_reverse]at h
theorem wo (x:List (Bytes×α)):(Dh x).Perm x:=by
 induction x using Oh with
 |h0=>exact List.Perm.refl _
 |h1 l a ih=>rw[uZ];exact(QF _ _).trans (ih.append_right _)
theorem JN (x:List (Bytes×α)) (h:(x.map (·.1)).Nodup):(Dh x).Pairwise fun a b=>a.1<b.1:=by
 induction x using Oh with
 |h0=>exact List.Pairwise.nil
 |h1 l a ih=>
  rw[List.map_append,List.nodup_append]at h;rw[uZ];exact Br (ih h.1) fun q hq e=>h.2.2 q.1 (List.mem_map_of_mem ((wo l).mem_iff.1 hq)) a.1 (by simp) e
def dF [Inhabited α] (x:List (Bytes×α)) (nm:Bytes):α:=((x.find? (·.1==nm)).map (·.2)).getD default
theorem Ae [Inhabited α] {x:List (Bytes×α)} (h:(x.map (·.1)).Nodup) {p:Bytes×α} (hp:p∈x):dF x p.1=p.2:=by
 induction x with
 |nil=>cases hp
 |cons q x ih=>
  rw[List.map_cons,List.nodup_cons]at h;unfold dF;rw[List.find?_cons];rcases List.mem_cons.1 hp with rfl|hp
  ·simp
  ·have:(q.1==p.1)=false:=by
    simp only[beq_eq_false_iff_ne];exact fun e=>h.1 (by rw[e];exact List.mem_map_of_mem hp)
   rw[this];exact ih h.2 hp
theorem Dg (x:List (Bytes×α)) (h:(x.map (·.1)).Nodup):(Dh x).map (·.1)=mZ (x.map (·.1)):=
 (He ((wo x).map _) (List.pairwise_map.2 (JN x h))).symm
theorem Qj [Inhabited α] (x:List (Bytes×α)) (h:(x.map (·.1)).Nodup):(Dh x).map (·.2)=(mZ (x.map (·.1))).map (dF x):=by
 rw[←Dg x h,List.map_map];exact List.map_congr_left fun p hp=>(Ae h ((wo x).mem_iff.1 hp)).symm
theorem QJ {l m:List Bytes} (h:l.Perm m) (s:Bytes):l7 l s=l7 m s:=by
 unfold l7;rw[Bool.eq_iff_iff,List.any_eq_true,List.any_eq_true];exact⟨fun⟨x,h1,h2⟩=>⟨x,h.mem_iff.1 h1,h2⟩,fun⟨x,h1,h2⟩=>⟨x,h.mem_iff.2 h1,h2⟩⟩
theorem KC {l:List Bytes} {s:Bytes} (h:l7 l s=false):s∉l:=fun hm=>by
 rw[l7,List.any_eq_false]at h;exact h s hm (by simp)
theorem DU {α β:Type} (f:α→β) (l:List α) (i:Nat) (p:α):(kg l i p).map f=kg (l.map f) i (f p):=by
 simp[kg,List.map_take,List.map_drop]
instance : Inhabited TA := ⟨mJ⟩
def zV (x:List (Bytes×TA)):TA:=.mk 5 [] ((Dh x).map (·.1)) ((Dh x).map (·.2))
theorem JM (x:List (Bytes×TA)) (p:Bytes×TA):zV (x ++[p])=.mk 5 [] (kg (zV x).names (mH (zV x).names p.1) p.1) (kg (zV x).l (mH (zV x).names p.1) p.2):=by
 unfold zV;rw[uZ,Ku,DU,DU];rfl
def nY (d:Nat):Nat→Bytes→List (Bytes×TA)→RS→List (Bytes×TA)×RS:=fun n nm x s=>nM d n nm x s
theorem xY (d:Nat):∀(n:Nat) (x:List (Bytes×TA)) (s:RS),(x.map (·.1)).Nodup→s.ok→
  (dh n d (zV x) s).2=(dK aS (nY d) n (x.map (·.1)) x s).2∧
  ((dK aS (nY d) n (x.map (·.1)) x s).2.bad=false→(dh n d (zV x) s).1=zV (dK aS (nY d) n (x.map (·.1)) x s).1∧((dK aS (nY d) n (x.map (·.1)) x s).1.map (·.1)).Nodup)
 |0,x,s,h,hs=>⟨by rw[dh];rfl,fun _=>⟨by rw[dh];rfl,h⟩⟩
 |n+1,x,s,h,hs=>by
  rw[dh,dK]
  by_cases h1:(!s.bad&& !isR s kRb)=true
  ·rw[if_pos h1,if_pos h1]
   by_cases h2:(aD (aK s).2 aS).bad=true
   ·rw[if_pos h2,if_pos h2]
    exact⟨rfl,fun e=>by rw[h2]at e;cases e⟩
   ·rw[if_neg h2,if_neg h2]
    have h2':(aD (aK s).2 aS).bad=false:=by simpa using h2
    have hn:l7 (zV x).names (aK s).1.text=l7 (x.map (·.1)) (aK s).1.text:=QJ ((wo x).map _) _;rw[hn];have k1:=lK hs aS h2';have k2:=(bS hs).trans (aL (hs.of (bS hs)) aS)
    by_cases h3:l7 (x.map (·.1)) (aK s).1.text=true
    ·rw[if_pos h3,if_pos h3]
     have k3:=(bN n).1 (d+1) _ (hs.of k1);have k4:=gU ((hs.of k1).of k3);have:=xY d n x _ h (((hs.of k1).of k3).of k4);exact this
    ·rw[if_neg h3,if_neg h3]
     obtain⟨h4,_,_⟩:=ji h2';obtain⟨_,h6,h7⟩:=qo h4
     have hne:(aK s).1.text≠[]:=by
      rw[h7];exact hs.named _ (List.mem_of_getElem? (uP hs)) h6
     have k3:=(bN n).1 (d+1) _ (hs.of k2);have k4:=gU ((hs.of k2).of k3);have hok:=((hs.of k2).of k3).of k4;simp only[nY,nM];generalize bM n (d+1) (aD (aK s).2 aS)=q at hok k3 k4⊢
     by_cases h5:q.2.bad=true
     ·rw[if_pos (.inr h5),uE h5,mE h5]
      exact⟨(sV n).2.2.2.2 d _ _ h5,fun e=>by rw[h5]at e;cases e⟩
     ·rw[if_neg (fun e=>e.elim hne h5)]
      have hnd:((x ++[((aK s).1.text,q.1)]).map (·.1)).Nodup:=by
       rw[List.map_append,List.nodup_append];refine⟨h,by simp,fun a ha b hb=>?_⟩;simp only[List.map_cons,List.map_nil,List.mem_singleton]at hb;subst hb;intro e;subst e;exact KC (by simpa using h3) ha
      have:=xY d n (x ++[((aK s).1.text,q.1)]) _ hnd hok;rw[JM]at this;rw[List.map_append]at this;exact this
  ·rw[if_neg h1,if_neg h1]
   exact⟨rfl,fun _=>⟨rfl,h⟩⟩
end Go.Ag
/- Package parse: record, plain. -/
namespace Go.Ag
open Go
variable {T : Tab} {L : Lnk}
theorem jf.to {f:Nat} {args:List au} {H0 H1:Heap} {r0:fE} (h:jf L f args H0 r0 H1) (hlen:H1.length=H0.length) (hargs:∀x∈args,Low H0.length x) (h0:∀o∈H0,bI H0.length o) (hy:Low H0.length r0.v) (h1:∀o∈H1,bI H0.length o)
  {H:Heap} {K KP:au→Heap→Prop} (J:Heap) (hH:H=H0 ++J) (hk:eB K KP r0 (H1 ++J)):aC L f args H (eB K KP):=by
 subst hH;exact(jf.at h hlen hargs h0 hy h1 J).mono fun r H' ⟨e1,e2⟩=>by subst e1 e2;exact hk
theorem aC.to1 {f:Nat} {args:List au} {H H1:Heap} {y:au} (h:aC L f args H fun r H'=>r=.ret y∧H'=H1) {K KP:au→Heap→Prop} (hk:K y H1):aC L f args H (eB K KP):=
 h.mono fun r H' ⟨e1,e2⟩=>by subst e1 e2;exact hk
structure I7 (L:Lnk):Prop where
 sort:∀(l:List Bytes) (n id t:Nat) (H:Heap),H[id]?=some (.arr n (aO l) t)→n=l.length→l≠[]→l.length≤2^40→
  aC L 200 [.vec id n 1 0 n] H fun r H'=>r=.ret (.tup [])∧H'=H.set id (.arr n (aO (mZ l)) t)
 CU:∀H:Heap,aC L 200 [.lst [] .nil] H fun r H'=>r=.ret (.tup [])∧H'=H
def Oj :List au:=[.ptr 4 0,.ptr 5 0,.ptr 7 0,.ptr 9 0]
theorem dY (n:Nat):∀(l:List (Bytes×TA)) (k:Nat),∀e∈cu l k,Low n e.1∧Low n e.2.1
 |[],k,e,h=>by cases h
 |p::l,k,e,h=>by
  rcases List.mem_cons.1 h with rfl|h
  ·exact⟨.str _,aQ _ _⟩
  ·exact dY n l (k+1) e h
theorem sH {n t:Nat} {xs:List au} (h:∀z∈xs,Low n z):bI n (EI xs t):=by
 cases xs with
 |nil=>exact trivial
 |cons y ys=>exact h
theorem sG {n k id:Nat} {xs:List au} (h:id<n):Low n (Cy xs k id):=by
 cases xs with
 |nil=>exact .lst _ _ trivial fK
 |cons y ys=>exact .vec _ _ _ _ _ h
theorem yN (d:Nat) (x:List (Bytes×TA)):∀i,i<8→bI 10 (Mw d x i)
 |0,_=>sH (fun z hz=>by
   obtain⟨b,_,rfl⟩:=List.mem_map.1 hz
   exact .str b)
 |1,_=>trivial
 |2,_=>dH ⟨.ptr _ _ (by decide:1<10),trivial⟩
 |3,_=>dH ⟨.int _ _,trivial⟩
 |4,_=>dH ⟨.int _ _,.str _,.lst _ _ trivial fK,.lst _ _ trivial fK,trivial⟩
 |5,_=>dH ⟨sG (by decide:2<10),trivial⟩
 |6,_=>fun e he=>dY 10 x 0 e he
 |7,_=>dH ⟨.map _ (by decide:8<10),trivial⟩
 |n+8,h=>by omega
theorem Sj (F:dZ T) (N:Nat) (ih:∀m,m≤N→PTy T m) (d:Nat) (hd:d≤64):vV T (Mw d) (nY d) (fun x seen=>x.map (·.1)=seen) 307 Oj N where
 FY:=fun x hx=>by
  simp only[Oj,List.mem_cons,List.not_mem_nil,or_false]at hx;rcases hx with rfl|rfl|rfl|rfl<;>exact .ptr _ _ (by decide)
 loo:=yN d
 le:=fun n nm x s hs=>(bN n).1 (d+1) s hs
 none:=fun n x s seen h=>by rw[nY,nM,if_pos (.inl rfl)];exact h
 some:=fun n nm x s seen h h1 h2 h3=>by
  simp only[nY,nM]at h3⊢;rw[if_neg (fun e=>e.elim h1 fun e=>by rw[h3]at e;cases e),List.map_append,h];rfl
 item:=fun n nm x s seen h1 h2 h3 h4 h5 h6 h7 h8=>by
  subst h5;refine jf.of 0 rfl (mW bH) (kT (yN d) _ _) ((Hz F ih d hd n nm x s h1 h2 h3 (by omega) (by rw[List.length_map]at h6;exact h6) h7).mono fun r H' ⟨J,e1,e2⟩=>⟨_,J,e1,by rw[e2,List.append_assoc];rfl,rfl,fun i o o' h1 h2=>by rw[h1]at h2;cases h2;exact bJ.refl o⟩)
theorem sP (l:List Bytes):flat (aO l)=aO l:=by
 induction l with
 |nil=>rfl
 |cons s l ih=>
  show(au.str s).cells ++flat (aO l)=_;rw[ih];rfl
theorem Qv {H:Heap} {id n t i:Nat} {l:List Bytes} (h:H[id]?=some (.arr n (aO l) t)) (hi:i<l.length):loadAt H none (.jv id n i)=some (.str l[i]):=by
 simp only[loadAt,fI,h,sP];rw[if_pos ⟨trivial,by rw[fQ];omega⟩]
 have:((aO l).drop i).take 1=[.str l[i]]:=by
  unfold aO;rw[List.drop_eq_getElem_cons (by simpa using hi)];simp
 rw[this]
theorem Ij {H:Heap} {id c:Nat} {x:List (Bytes×TA)} {nm:Bytes} {z:au} (h:H[id]?=some (.map (cu x 0) c)) (hm:nm∈x.map (·.1)):mq 1 z false H (.map id) (.str nm)=some (dF x nm).av:=by
 simp only[mq,lG,h,Gh,Option.map_some,yZ];obtain⟨p,hp,hpn⟩:=List.mem_map.1 hm
 have h1:(x.find? (·.1==nm)).isSome=true:=by
  rw[List.find?_isSome];exact⟨p,hp,by simpa using hpn⟩
 have h2:(x.findIdx? (·.1==nm)).isSome=true:=by
  rw[List.findIdx?_isSome,List.any_eq_true];exact⟨p,hp,by simpa using hpn⟩
 obtain⟨q,hq⟩:=Option.isSome_iff_exists.1 h1;obtain⟨j,hj⟩:=Option.isSome_iff_exists.1 h2;unfold dF;rw[hq,hj];rfl
theorem vN (d:Nat):∀(n:Nat) (seen:List Bytes) (x:List (Bytes×TA)) (s:RS),s.ok→(dK aS (nY d) n seen x s).1.length≤x.length+s.rem
 |0,seen,x,s,hs=>by rw[dK];dsimp only;omega
 |n+1,seen,x,s,hs=>by
  rw[dK];split
  ·split
   ·dsimp only;omega
   ·rename_i _ h2
    have h2':(aD (aK s).2 aS).bad=false:=by simpa using h2
    have htr:=tC hs aS h2';split
    ·have k1:=lK hs aS h2'
     have k3:=(bN n).1 (d+1) _ (hs.of k1);have k4:=gU ((hs.of k1).of k3);have:=vN d n seen (nY d n [] x (gu (aD (aK s).2 aS) (aK s).1)).1 _ (((hs.of k1).of k3).of k4);have hx:(nY d n [] x (gu (aD (aK s).2 aS) (aK s).1)).1=x:=by rw[nY,nM,if_pos (.inl rfl)]
     rw[hx]at this⊢;have r1:=k1.rem;have r3:=k3.rem;have r4:=k4.rem;refine Nat.le_trans this ?_;omega
    ·have k2:=(bS hs).trans (aL (hs.of (bS hs)) aS)
     have k3:=(bN n).1 (d+1) _ (hs.of k2);have k4:=gU ((hs.of k2).of k3);have:=vN d n (seen ++[(aK s).1.text]) (nY d n (aK s).1.text x (aD (aK s).2 aS)).1 _ (((hs.of k2).of k3).of k4)
     have hx:(nY d n (aK s).1.text x (aD (aK s).2 aS)).1.length≤x.length+1:=by
      rw[nY,nM];dsimp only;split
      ·omega
      ·simp
     have r3:=k3.rem;have r4:=k4.rem;refine Nat.le_trans this ?_;omega
  ·dsimp only;omega
theorem JL (F : dZ T) (DZ : T.has 318 Gu) (h28 : T.has 28 NC) (B : I7 T.L) (N : Nat) (ih : ∀ m, m ≤ N → PTy T m) (d : Nat) (hd : d ≤ 64) (s : RS) (hs : s.ok) (hb : s.bad = false) (hf : 6 * s.rem + 7 ≤ N) :
  PC T.L 293 [.int .i64 d] s (dh N d (.mk 5 [] [] []) s).1.av (dh N d (.mk 5 [] [] []) s).2 := by
 refine PC.of 2 (aQ _ _) (aC.freeze (aG F.WZ (by simp [Uq]) ?_))
 have hrel := xY d N [] s List.nodup_nil hs
 rw [show zV [] = .mk 5 [] [] [] from rfl] at hrel
 have hfs := Bw F DZ h28 (Sj F N ih d hd) aS N [] s (Nat.le_refl _) hs hb hf rfl
 rw [show ([] : List (Bytes × TA)).map (·.1) = [] from rfl] at hrel
 have hlen : (dK aS (nY d) N [] [] s).1.length ≤ 2 ^ 34 := by
  have h1 := vN d N [] [] s hs
  have h2 := hs.len
  have h3 : s.rem ≤ s.toks.length := by unfold RS.rem; omega
  rw [List.length_nil] at h1
  omega
 generalize dK aS (nY d) N [] [] s = G at hrel hfs hlen
 generalize dh N d (.mk 5 [] [] []) s = R at hrel ⊢
 obtain ⟨x', s'⟩ := G
 obtain ⟨t, s''⟩ := R
 dsimp only at hrel hfs hlen ⊢
 obtain ⟨rfl, hrel⟩ := hrel
 conv => whnf
 refine hfs.to rfl (fun z hz => ?_) (kT (yN d) _ _) (mW bH) (kT (yN d) _ _) [] (by rfl) ?_
 ·simp only [List.mem_cons, List.not_mem_nil, or_false] at hz
  rcases hz with rfl | rfl | rfl
  ·exact .ptr _ _ (show 1 < 10 by decide)
  ·exact .str _
  ·exact .fn _ _ _ fK (Sj F N ih d hd).FY
 cases hb' : s''.bad
 ·obtain ⟨rfl, hnd⟩ := hrel hb'
  obtain ⟨l, hl⟩ : ∃ l, x'.map (·.1) = l := ⟨_, rfl⟩
  have hll : l.length = x'.length := by rw [← hl, List.length_map]
  cases x' with
  | nil =>
   conv => whnf
   refine (B.CU _).to1 ?_
   conv => whnf
   intro I hI hG
   apply hI
   conv => whnf
   refine .inl (aT.ret hb' ?_ rfl)
   show Weak T.L _ (TA.mk 5 [] [] []).av
   rw [TA.av]
   exact Weak.agg ⟨Weak.refl _, Weak.refl _, Weak.tok _ _, Weak.tok _ _, trivial⟩
  | cons p x0 =>
   obtain ⟨x', hx'⟩ : ∃ x', p :: x0 = x' := ⟨_, rfl⟩
   have hlne : l ≠ [] := by rw [← hl]; simp
   rw [hx'] at hl hnd hll hlen ⊢
   obtain ⟨n, hn⟩ : ∃ n, n = l.length := ⟨_, rfl⟩
   have hH0 : kZ (Mw d) x' = [.arr n (aO l) 10, .dead, .cells [.ptr 1 0] 225, .cells [.int .i64 d] 4, .cells Cr 175, .cells [.vec 2 n 1 0 n] 43, .map (cu x' 0) x'.length, .cells [.map 8] 231] := by
    have e1 : iG x' = aO l := by unfold iG; rw [hl]
    have e2 : aO l ≠ [] := by unfold aO; simpa using hlne
    have e3 : n = (aO l).length := by rw [fQ, hn]
    rw [e3, ← e1, ← yE (by rw [e1]; exact e2), ← yD (by rw [e1]; exact e2)]
    rfl
   rw [hH0]
   have hS : (Dh x').map (·.1) = mZ l := by rw [Dg x' hnd, hl]
   have hV : (Dh x').map (·.2) = (mZ l).map (dF x') := by rw [Qj x' hnd, hl]
   have F9 : ∀ {H : Heap} {c : Nat} {nm : Bytes} {z : au}, H[8]? = some (.map (cu x' 0) c) → nm ∈ mZ l → mq 1 z false H (.map 8) (.str nm) = some (dF x' nm).av := fun h1 h2 =>
    Ij h1 (by rw [hl]; exact (tK l).mem_iff.1 h2)
   generalize cu x' 0 = E at F9 ⊢
   conv => whnf
   refine (B.sort l n 2 10 _ rfl hn hlne (by omega)).to1 ?_
   have hSl : (mZ l).length = n := by rw [hn]; exact (tK l).length_eq
   generalize mZ l = S at hS hV F9 hSl ⊢
   obtain ⟨Ls, hLs⟩ : ∃ Ls, S.map (dF x') = Ls := ⟨_, rfl⟩
   rw [hLs] at hV
   have hLl : Ls.length = n := by rw [← hLs, List.length_map, hSl]
   conv => whnf
   intro I hI hG
   have key : ∀ (m k : Nat) (e : Env), n - k = m → k ≤ n → I (gB e [(4, .ptr 6 0), (6, .ptr 9 0), (7, .ptr 10 0), (18, .vec 2 n 1 0 n), (19, .int .i64 n), (20, .int .i64 k)])
     (aW s'' ++ [.arr n (aO S) 10, bC (TA.avs (Ls.take k)).length 175, .cells [.ptr 1 0] 225, .cells [.int .i64 d] 4, .cells Cr 175, .cells [.vec 2 n 1 0 n] 43, .map E x'.length, .cells [.map 8] 231,
      .cells [.int .i64 5, .str [], .vec 2 n 1 0 n, .lst (TA.avs (Ls.take k)) (bK (TA.avs (Ls.take k)).length 3)] 175]) := by
    intro m
    induction m with
    | zero =>
     intro k e hm hk
     have hkn : k = n := by omega
     apply hI
     conv => whnf
     rw [bU (by omega)]
     conv => whnf
     rw [show Ls.take k = Ls from List.take_of_length_le (by omega)]
     obtain rfl : n = (aO S).length := by rw [fQ]; exact hSl.symm
     refine .inr ⟨2, aO S, 10, 1, .ret _, rfl, ?_, aT.ret hb' (Weak.refl _) rfl⟩
     show ow _ T.L _ (zV x').av
     rw [zV, hS, hV, TA.av]
     exact ow.agg ⟨ow.refl _, ow.refl _, ow.froze, ow.of (Weak.tok _ _), trivial⟩
    | succ m ihm =>
     intro k e hm hk
     have hlt : k < n := by omega
     apply hI
     conv => whnf
     rw [dz hlt]
     conv => whnf
     refine ⟨⟨Int.natCast_nonneg _, by omega, rfl⟩, ?_⟩
     conv => whnf
     rw [show (0 + ((k : Nat) : Int).toNat) * 1 = k from by simp, Qv (l := S) (n := n) (t := 10) ?_ (by omega)]
     ·conv => whnf
      rw [F9 (nm := S[k]) (c := x'.length) ?_ (List.getElem_mem _)]
      ·have htk : TA.avs (Ls.take (k + 1)) = TA.avs (Ls.take k) ++ [(dF x' S[k]).av] := by
        have hk1 : k < Ls.length := by omega
        have hk2 : Ls[k] = dF x' S[k] := by subst hLs; simp
        rw [List.take_succ_eq_append_getElem hk1, jC, hk2]; rfl
       have hlk : (TA.avs (Ls.take k)).length = k := by rw [bY]; simp; omega
       have hsz := gL (Ls.take k)
       have hnext := fun e => ihm (k + 1) e (by omega) (by omega)
       rw [htk] at hnext
       generalize dF x' S[k] = v at hnext ⊢
       generalize TA.avs (Ls.take k) = YS at hnext hlk hsz ⊢
       obtain ⟨vk, vn, vs, vl⟩ := v
       conv => whnf
       refine dS (id := 3) hsz (bP rfl) (by simp [hlk]; omega) (by simp [hlk]; omega) (by simp) rfl ?_
       conv => whnf
       exact inv_of [(4, .ptr 6 0), (6, .ptr 9 0), (7, .ptr 10 0), (18, .vec 2 n 1 0 n), (19, .int .i64 n), (20, .int .i64 (k + 1 : Nat))] ⟨rfl, rfl, rfl, rfl, rfl, add1 (by omega), trivial⟩ (hnext _)
      ·rfl
     ·rfl
   exact inv_of [(4, .ptr 6 0), (6, .ptr 9 0), (7, .ptr 10 0), (18, .vec 2 n 1 0 n), (19, .int .i64 n), (20, .int .i64 0)] ⟨rfl, rfl, rfl, rfl, rfl, rfl, trivial⟩ (key n 0 _ rfl (Nat.zero_le _))
 ·conv => whnf
  exact .inl (aT.pan hb' rfl)
end Go.Ag
/- Package parse: plain types; all of types. -/
namespace Go.Ag
open Go
variable {T : Tab} {L : Lnk}
structure GD (T:Tab):Prop extends dZ T where
 DZ:T.has 318 Gu
 h28:T.has 28 NC
 lib:I7 T.L
theorem vW (k:Int) (nm:Bytes) {t1 t2:Tok}:Weak L (.agg [.int .i64 k,.str nm,.lst [] t1,.lst [] t2]) (TA.mk k nm [] []).av:=by
 rw[TA.av];exact Weak.agg ⟨Weak.refl _,Weak.refl _,Weak.tok _ _,Weak.tok _ _,trivial⟩
theorem JU (F:GD T) (n:Nat) (ih:∀m,m≤n→PTy T m) (d:Nat) (s:RS) (hs:s.ok) (hb:s.bad=false) (hd:d≤64) (hf:6*s.rem+4≤n+1):PC T.L 249 [.int .i64 d] s (dU (n+1) d s).1.av (dU (n+1) d s).2:=by
 refine PC.of 0 (aQ _ _) (aG F.Xo (by simp[UD]) ?_);obtain⟨R,hR⟩:∃R,dU (n+1) d s=R:=⟨_,rfl⟩;rw[hR];rw[dU,if_neg (by simp[hb])]at hR;have F':=F.todZ;conv=>whnf
 refine F'.here hs hb _ rfl ?_;conv=>whnf
 have next:∀w,isR s w=true→(aD s w).bad=false:=fun w h=>by rw[jL h];exact hb
 cases hk:(s.tok.kind==1)
 ·rw[if_neg (by simpa using hk)]at hR
  conv=>whnf
  refine F'.take hs hb Iq _ rfl (fun h1=>?_) fun h1=>?_
  ·rw[if_neg (by simp[h1])]at hR
   conv=>whnf
   refine F'.take hs hb za _ rfl (fun h2=>?_) fun h2=>?_
   ·rw[if_neg (by simp[h2])]at hR
    conv=>whnf
    refine F'.take hs hb y9 _ rfl (fun h3=>?_) fun h3=>?_
    ·rw[if_neg (by simp[h3])]at hR
     conv=>whnf
     refine F'.take hs hb QB _ rfl (fun h4=>?_) fun h4=>?_
     ·rw[if_neg (by simp[h4])]at hR
      conv=>whnf
      refine F'.take hs hb kLb _ rfl (fun h5=>?_) fun h5=>?_
      ·rw[if_neg (by simp[h5])]at hR
       conv=>whnf
       refine F'.want hs hb kLp _ rfl (fun h6=>?_) fun h6=>?_
       ·rw[if_neg (by simp[h6])]at hR
        have hs1:=hs.of (aL hs kLp);have hr1:=eO hs (ji h6).2.1;generalize aD s kLp=s1 at h6 hs1 hr1 hR⊢;conv=>whnf
        rw[addN (by omega)];have ht:=(ih n (Nat.le_refl _)).typ (d+1) s1 hs1 h6 (by omega) (by omega);have hle:=(bN n).1 (d+1) s1 hs1;generalize bM n (d+1) s1=q at ht hle hR⊢;obtain⟨⟨k',nm',ns',l'⟩,s2⟩:=q;dsimp only at ht hle hR⊢;refine ht.to (dD (.int _ _)) (aQ _ _) _ rfl (fun h7=>?_) fun h7=>?_
        ·conv=>whnf
         refine F'.want (hs1.of hle) h7 kRp _ rfl (fun h8=>?_) fun h8=>?_
         ·subst hR
          conv=>whnf
          exact aT.ret h8 (Weak.refl _) rfl
         ·subst hR
          conv=>whnf
          exact aT.pan h8 rfl
        ·rw[bL h7]at hR
         subst hR;conv=>whnf
         exact aT.pan h7 rfl
       ·rw[if_pos h6]at hR
        subst hR;conv=>whnf
        exact aT.pan h6 rfl
      ·rw[if_pos h5]at hR
       conv=>whnf
       have hb1:=next _ h5;have hs1:=hs.of (aL hs kLb);have hr1:=eO hs h5;generalize aD s kLb=s1 at hb1 hs1 hr1 hR⊢;have hq:=JL F' F.DZ F.h28 F.lib n ih d hd s1 hs1 hb1 (by omega);rw[hR]at hq;obtain⟨⟨k',nm',ns',l'⟩,s2⟩:=R;refine hq.to (dD (.int _ _)) (aQ _ _) _ rfl (fun h7=>?_) fun h7=>?_
       ·conv=>whnf
        exact aT.ret h7 (Weak.refl _) rfl
       ·conv=>whnf
        exact aT.pan h7 rfl
     ·rw[if_pos h4]at hR
      subst hR;conv=>whnf
      exact aT.ret (next _ h4) (vW 4 []) rfl
    ·rw[if_pos h3]at hR
     subst hR;conv=>whnf
     exact aT.ret (next _ h3) (vW 3 []) rfl
   ·rw[if_pos h2]at hR
    subst hR;conv=>whnf
    exact aT.ret (next _ h2) (vW 2 []) rfl
  ·rw[if_pos h1]at hR
   subst hR;conv=>whnf
   exact aT.ret (next _ h1) (vW 1 []) rfl
 ·rw[if_pos (by simpa using hk)]at hR
  subst hR;conv=>whnf
  rw[addN hs.i];exact aT.ret hb (vW 8 _) rfl
theorem Om (F:GD T):∀n,PTy T n:=fun n=>Nat.strongRecOn n fun n ih=>by
 cases n with
 |zero=>exact⟨fun d s hs hb hd hf=>by omega,fun d s hs hb hd hf=>by omega,fun d s hs hb hd hf=>by omega⟩
 |succ n=>
  have ih':∀m,m≤n→PTy T m:=fun m hm=>ih m (by omega)
  exact⟨fun d s hs hb hd hf=>Ql F.todZ n ih' d s hs hb hd hf,fun d s hs hb hd hf=>J2 F.todZ n ih' d s hs hb hd hf,fun d s hs hb hd hf=>JU F n ih' d s hs hb hd hf⟩
end Go.Ag
/- Abstract codes, printed by a program of ours (acode.py) out of the given program's form. -/
namespace Go.Ag
open Go
def UZ :aM:=(.mk 1 30 [2,3] (.seq (.ops [(.d 2 (.mv (.const .nl))),(.d 3 (.mv (.const .nl)))]) (.seq (.ops [(.d 5 (.mv 0)),(.d 6 (.build [(.str []),(.i 0),.nl,.nl] [(0,(1,5))])),(.d 7 (.box 299 6)),(.d 4 (.mv 7))]) (.seq (.block 0 (.loop (.seq (.seq (.ops [(.d 8 (.mv 4)),(.d 9 (.aJ 8)),(.d 10 (.aB 1 9)),(.d 11 (.load none 10)),(.d 12 (.mv 0)),(.d 13 (.qx 12)),(.d 14 (.bin .lss 11 13))]) (.cond 14 .skip (.exit 0))) (.block 1 (.ops [(.d 15 (.mv 4)),(.d 16 (.call 246 [15]))]))))) (.seq (.draw [(.d 17 (.mv 4)),(.d 18 (.aJ 17)),(.d 19 (.aB 2 18)),(.d 20 (.load none 19)),(.d 21 (.mv 0)),(.d 22 (.qx 21)),(.d 23 (.build [(.i 0),(.i 0),(.str [])] [(0,(1,(.const (.i 6)))),(1,(1,22)),(2,(1,(.const (.str []))))])),(.d 24 (.lit 3 32 [] 1 [(0,23)])),(.d 26 (.mv 4)),(.d 27 (.aJ 26)),(.d 28 (.aB 3 27)),(.d 29 (.load none 28))] [(.d 25 (.append 3 32 282 20 24)),(.d 2 (.mv 25)),(.d 3 (.mv 29))]) .ret)))))
def UF :aM:=(.mk 1 119 [] (.seq (.draw [(.d 5 (.mv 0)),(.d 6 (.aJ 5)),(.d 7 (.aB 0 6)),(.d 8 (.load none 7)),(.d 9 (.mv 0)),(.d 10 (.aJ 9)),(.d 11 (.aB 1 10)),(.d 12 (.load none 11)),(.d 13 (.zf 8 12)),(.d 2 (.mv 13))] []) (.block 0 (.seq (.ops [(.d 24 (.mv 2)),(.d 25 (.bin .eql 24 (.const (.int .u8 32)))),(.d 26 (.mv 25)),(.g 27 (.mv 2) 26 false),(.g 28 (.bin .eql 27 (.const (.int .u8 9))) 26 false),(.d 29 (.pick 26 (.const (.bool true)) 28)),(.d 30 (.mv 29)),(.g 31 (.mv 2) 30 false),(.g 32 (.bin .eql 31 (.const (.int .u8 10))) 30 false),(.d 33 (.pick 30 (.const (.bool true)) 32)),(.d 34 (.mv 33)),(.g 35 (.mv 2) 34 false),(.g 36 (.bin .eql 35 (.const (.int .u8 13))) 34 false),(.d 37 (.pick 34 (.const (.bool true)) 36)),(.d 23 (.mv 37))]) (.cond 23 (.ops [(.d 38 (.mv 0)),(.d 39 (.aJ 38)),(.d 40 (.aB 1 39)),(.d 41 (.load none 40)),(.d 42 (.bin .add 41 (.const (.i 1)))),(.d 43 (.aJ 38)),(.d 44 (.aB 1 43)),(.n (.store 1 44 42))]) (.seq (.ops [(.d 46 (.mv 2)),(.d 47 (.bin .eql 46 (.const (.int .u8 35)))),(.d 45 (.mv 47))]) (.cond 45 (.iy [(.d 48 (.mv 0)),(.d 49 (.aJ 48)),(.d 50 (.aB 1 49)),(.d 51 (.load none 50)),(.d 52 (.mv 0)),(.d 53 (.mv 0)),(.d 54 (.aJ 53)),(.d 55 (.aB 1 54)),(.d 56 (.load none 55))] (.alt (.d 57 (.call 282 [52,56,(.const (.fn (.func 283) [] []))])) [(none,50)] (.alt (.d 58 (.bin .add 51 57)) [] (.alt (.d 59 (.aJ 48)) [] (.alt (.d 60 (.aB 1 59)) [] (.alt (.n (.store 1 60 58)) [] .done .stop) .stop) .stop) .stop) .stop)) (.seq (.ops [(.d 62 (.mv 2)),(.d 63 (.call 284 [62])),(.d 61 (.mv 63))]) (.cond 61 (.seq (.ops [(.d 64 (.mv 0)),(.d 65 (.mv 0)),(.d 66 (.aJ 65)),(.d 67 (.aB 1 66)),(.d 68 (.load none 67)),(.d 69 (.call 282 [64,68,(.const (.fn (.func 285) [] []))])),(.d 3 (.mv 69))]) (.seq (.ops [(.d 4 (.mv (.const (.i 1))))]) (.seq (.seq (.draw [(.d 70 (.mv 0)),(.d 71 (.aJ 70)),(.d 72 (.aB 0 71)),(.d 73 (.load none 72)),(.d 74 (.mv 0)),(.d 75 (.aJ 74)),(.d 76 (.aB 1 75)),(.d 77 (.load none 76)),(.d 78 (.mv 0)),(.d 79 (.aJ 78)),(.d 80 (.aB 1 79)),(.d 81 (.load none 80)),(.d 82 (.mv 3)),(.d 83 (.bin .add 81 82)),(.d 84 (.wW 73 (some 77) (some 83)))] [(.d 85 (.call 286 [84]))]) (.cond 85 (.ops [(.d 4 (.mv (.const (.i 2))))]) .skip)) (.ops [(.d 86 (.mv 0)),(.d 87 (.mv 4)),(.d 88 (.mv 3)),(.d 89 (.call 287 [86,87,88]))])))) (.seq (.ops [(.d 91 (.mv 2)),(.d 92 (.call 288 [91])),(.d 90 (.mv 92))]) (.cond 90 (.ops [(.d 93 (.mv 0)),(.d 94 (.call 289 [93]))]) (.seq (.ops [(.d 96 (.mv 2)),(.d 97 (.bin .eql 96 (.const (.int .u8 34)))),(.d 95 (.mv 97))]) (.cond 95 (.ops [(.d 98 (.mv 0)),(.d 99 (.call 290 [98]))]) (.seq (.draw [(.d 101 (.mv 0)),(.d 102 (.aJ 101)),(.d 103 (.aB 0 102)),(.d 104 (.load none 103)),(.d 105 (.mv 0)),(.d 106 (.aJ 105)),(.d 107 (.aB 1 106)),(.d 108 (.load none 107)),(.d 109 (.wW 104 (some 108) none))] [(.d 110 (.call 291 [109,(.const (.str [45,62]))])),(.d 100 (.mv 110))]) (.cond 100 (.ops [(.d 111 (.mv 0)),(.d 112 (.call 287 [111,(.const (.i 5)),(.const (.i 2))]))]) (.seq (.ops [(.d 114 (.mv 2)),(.d 115 (.call 49 [(.const (.str [61,58,59,44,46,40,41,123,125,124,63])),114])),(.d 116 (.bin .geq 115 (.const (.i 0)))),(.d 113 (.mv 116))]) (.cond 113 (.ops [(.d 117 (.mv 0)),(.d 118 (.call 287 [117,(.const (.i 5)),(.const (.i 1))]))]) (.seq (.ops [(.d 14 (.mv 0)),(.d 15 (.call 292 [14,(.const (.i 1))]))]) (.ops [(.d 16 (.mv 0)),(.d 17 (.aJ 16)),(.d 18 (.aB 1 17)),(.d 19 (.load none 18)),(.d 20 (.bin .add 19 (.const (.i 1)))),(.d 21 (.aJ 16)),(.d 22 (.aB 1 21)),(.n (.store 1 22 20))])))))))))))))))))))
def O6 :aM:=(.mk 3 32 [6] (.seq (.ops [(.d 6 (.mv (.const (.i 0))))]) (.seq (.ops [(.d 7 (.mv (.const (.i 0))))]) (.seq (.block 0 (.loop (.seq (.seq (.ops [(.d 8 (.mv 1)),(.d 9 (.mv 7)),(.d 10 (.bin .add 8 9)),(.d 11 (.mv 0)),(.d 12 (.aJ 11)),(.d 13 (.aB 0 12)),(.d 14 (.load none 13)),(.d 15 (.qx 14)),(.d 16 (.bin .lss 10 15)),(.d 17 (.mv 16)),(.g 18 (.mv 2) 17 true),(.g 19 (.mv 0) 17 true),(.g 20 (.aJ 19) 17 true),(.g 21 (.aB 0 20) 17 true),(.g 22 (.load none 21) 17 true),(.g 23 (.mv 1) 17 true),(.g 24 (.mv 7) 17 true),(.g 25 (.bin .add 23 24) 17 true),(.g 26 (.zf 22 25) 17 true),(.g 27 (.fJ 18 [26]) 17 true),(.d 28 (.pick 17 27 (.const (.bool false))))]) (.cond 28 .skip (.exit 0))) (.block 1 (.ops [(.d 29 (.mv 7)),(.d 30 (.bin .add 29 (.const (.i 1)))),(.d 7 (.mv 30))]))))) (.seq (.ops [(.d 31 (.mv 7)),(.d 6 (.mv 31))]) .ret)))))
def O5 :aM:=(.mk 1 5 [2] (.seq (.ops [(.d 2 (.mv (.const (.bool false))))]) (.seq (.ops [(.d 3 (.mv 0)),(.d 4 (.bin .neq 3 (.const (.int .u8 10)))),(.d 2 (.mv 4))]) .ret)))
def Li :aM:=(.mk 1 13 [2] (.seq (.ops [(.d 2 (.mv (.const (.bool false))))]) (.seq (.ops [(.d 3 (.mv 0)),(.d 4 (.bin .geq 3 (.const (.int .u8 97)))),(.d 5 (.mv 4)),(.g 6 (.mv 0) 5 true),(.g 7 (.bin .leq 6 (.const (.int .u8 122))) 5 true),(.d 8 (.pick 5 7 (.const (.bool false)))),(.d 9 (.mv 8)),(.g 10 (.mv 0) 9 false),(.g 11 (.bin .eql 10 (.const (.int .u8 95))) 9 false),(.d 12 (.pick 9 (.const (.bool true)) 11)),(.d 2 (.mv 12))]) .ret)))
def O4 :aM:=(.mk 1 9 [2] (.seq (.ops [(.d 2 (.mv (.const (.bool false))))]) (.seq (.ops [(.d 3 (.mv 0)),(.d 4 (.call 284 [3])),(.d 5 (.mv 4)),(.g 6 (.mv 0) 5 false),(.g 7 (.call 288 [6]) 5 false),(.d 8 (.pick 5 (.const (.bool true)) 7)),(.d 2 (.mv 8))]) .ret)))
def O3 :aM:=(.mk 1 18 [2] (.seq (.ops [(.d 2 (.mv (.const (.bool false))))]) (.seq (.seq (.ops [(.d 3 (.mv 0))]) (.block 0 (.seq (.seq (.ops [(.d 5 (.bin .eql 3 (.const (.str [117,115,101])))),(.d 4 (.mv 5))]) (.cond 4 .skip (.seq (.ops [(.d 6 (.bin .eql 3 (.const (.str [116,121,112,101])))),(.d 4 (.mv 6))]) (.cond 4 .skip (.seq (.ops [(.d 7 (.bin .eql 3 (.const (.str [108,101,116])))),(.d 4 (.mv 7))]) (.cond 4 .skip (.seq (.ops [(.d 8 (.bin .eql 3 (.const (.str [105,110])))),(.d 4 (.mv 8))]) (.cond 4 .skip (.seq (.ops [(.d 9 (.bin .eql 3 (.const (.str [105,102])))),(.d 4 (.mv 9))]) (.cond 4 .skip (.seq (.ops [(.d 10 (.bin .eql 3 (.const (.str [116,104,101,110])))),(.d 4 (.mv 10))]) (.cond 4 .skip (.seq (.ops [(.d 11 (.bin .eql 3 (.const (.str [101,108,115,101])))),(.d 4 (.mv 11))]) (.cond 4 .skip (.seq (.ops [(.d 12 (.bin .eql 3 (.const (.str [102,117,110])))),(.d 4 (.mv 12))]) (.cond 4 .skip (.seq (.ops [(.d 13 (.bin .eql 3 (.const (.str [116,114,117,101])))),(.d 4 (.mv 13))]) (.cond 4 .skip (.seq (.ops [(.d 14 (.bin .eql 3 (.const (.str [102,97,108,115,101])))),(.d 4 (.mv 14))]) (.cond 4 .skip (.seq (.ops [(.d 15 (.bin .eql 3 (.const (.str [105,110,116])))),(.d 4 (.mv 15))]) (.cond 4 .skip (.seq (.ops [(.d 16 (.bin .eql 3 (.const (.str [98,111,111,108])))),(.d 4 (.mv 16))]) (.cond 4 .skip (.ops [(.d 17 (.bin .eql 3 (.const (.str [116,101,120,116])))),(.d 4 (.mv 17))]))))))))))))))))))))))))) (.cond 4 (.seq (.ops [(.d 2 (.mv (.const (.bool true))))]) .ret) .skip)))) (.seq (.ops [(.d 2 (.mv (.const (.bool false))))]) .ret))))
def O1 :aM:=(.mk 3 44 [] (.seq (.draw [(.d 6 (.mv 0)),(.d 7 (.mv 0)),(.d 8 (.aJ 7)),(.d 9 (.aB 2 8)),(.d 10 (.load none 9)),(.d 11 (.mv 1)),(.d 12 (.mv 0)),(.d 13 (.aJ 12)),(.d 14 (.aB 1 13)),(.d 15 (.load none 14)),(.d 16 (.mv 0)),(.d 17 (.aJ 16)),(.d 18 (.aB 0 17)),(.d 19 (.load none 18)),(.d 20 (.mv 0)),(.d 21 (.aJ 20)),(.d 22 (.aB 1 21)),(.d 23 (.load none 22)),(.d 24 (.mv 0)),(.d 25 (.aJ 24)),(.d 26 (.aB 1 25)),(.d 27 (.load none 26)),(.d 28 (.mv 2)),(.d 29 (.bin .add 27 28)),(.d 30 (.wW 19 (some 23) (some 29))),(.d 31 (.build [(.i 0),(.i 0),(.str [])] [(0,(1,11)),(1,(1,15)),(2,(1,30))])),(.d 32 (.lit 3 32 [] 1 [(0,31)]))] [(.d 33 (.append 3 32 282 10 32)),(.d 34 (.aJ 6)),(.d 35 (.aB 2 34)),(.n (.store 1 35 33))]) (.ops [(.d 36 (.mv 0)),(.d 37 (.aJ 36)),(.d 38 (.aB 1 37)),(.d 39 (.load none 38)),(.d 40 (.mv 2)),(.d 41 (.bin .add 39 40)),(.d 42 (.aJ 36)),(.d 43 (.aB 1 42)),(.n (.store 1 43 41))])))
def Lh :aM:=(.mk 1 9 [2] (.seq (.ops [(.d 2 (.mv (.const (.bool false))))]) (.seq (.ops [(.d 3 (.mv 0)),(.d 4 (.bin .geq 3 (.const (.int .u8 48)))),(.d 5 (.mv 4)),(.g 6 (.mv 0) 5 true),(.g 7 (.bin .leq 6 (.const (.int .u8 57))) 5 true),(.d 8 (.pick 5 7 (.const (.bool false)))),(.d 2 (.mv 8))]) .ret)))
def Us :aM:=(.mk 1 38 [] (.seq (.ops [(.d 3 (.mv 0)),(.d 4 (.mv 0)),(.d 5 (.aJ 4)),(.d 6 (.aB 1 5)),(.d 7 (.load none 6)),(.d 8 (.call 282 [3,7,(.const (.fn (.func 288) [] []))])),(.d 2 (.mv 8))]) (.seq (.seq (.ops [(.d 9 (.mv 2)),(.d 10 (.bin .leq 9 (.const (.i 18))))]) (.cond 10 (.seq (.ops [(.d 11 (.mv 0)),(.d 12 (.mv 2)),(.d 13 (.call 287 [11,(.const (.i 3)),12]))]) .ret) .skip)) (.seq (.ops [(.d 14 (.mv 0)),(.d 15 (.call 292 [14,(.const (.i 13))]))]) (.seq (.draw [(.d 16 (.mv 0)),(.d 17 (.mv 0)),(.d 18 (.aJ 17)),(.d 19 (.aB 2 18)),(.d 20 (.load none 19)),(.d 21 (.mv 0)),(.d 22 (.aJ 21)),(.d 23 (.aB 1 22)),(.d 24 (.load none 23)),(.d 25 (.build [(.i 0),(.i 0),(.str [])] [(0,(1,(.const (.i 3)))),(1,(1,24)),(2,(1,(.const (.str [48]))))])),(.d 26 (.lit 3 32 [] 1 [(0,25)]))] [(.d 27 (.append 3 32 282 20 26)),(.d 28 (.aJ 16)),(.d 29 (.aB 2 28)),(.n (.store 1 29 27))]) (.ops [(.d 30 (.mv 0)),(.d 31 (.aJ 30)),(.d 32 (.aB 1 31)),(.d 33 (.load none 32)),(.d 34 (.mv 2)),(.d 35 (.bin .add 33 34)),(.d 36 (.aJ 30)),(.d 37 (.aB 1 36)),(.n (.store 1 37 35))]))))))
def Ur :aM:=(.mk 1 70 [] (.seq (.draw [(.d 9 (.mv 0)),(.d 10 (.aJ 9)),(.d 11 (.aB 0 10)),(.d 12 (.load none 11)),(.d 13 (.mv 0)),(.d 14 (.aJ 13)),(.d 15 (.aB 1 14)),(.d 16 (.load none 15)),(.d 17 (.bin .add 16 (.const (.i 1)))),(.d 18 (.wW 12 (some 17) none)),(.d 2 (.mv 18))] []) (.seq (.ops [(.d 20 (.mv 2)),(.d 21 (.call 22 [20,(.const (.str [10]))])),(.d 19 (.mv 21)),(.d 22 (.ext 19 0)),(.d 23 (.ext 19 1)),(.d 24 (.ext 19 2)),(.d 3 (.mv 22)),(.d 4 (.mv 23)),(.d 5 (.mv 24))]) (.seq (.ops [(.d 26 (.mv 3)),(.d 27 (.call 22 [26,(.const (.str [34]))])),(.d 25 (.mv 27)),(.d 28 (.ext 25 0)),(.d 29 (.ext 25 1)),(.d 30 (.ext 25 2)),(.d 6 (.mv 28)),(.d 7 (.mv 29)),(.d 8 (.mv 30))]) (.seq (.seq (.ops [(.d 31 (.mv 8)),(.d 32 (.un .not 31))]) (.cond 32 (.seq (.ops [(.d 33 (.mv 0)),(.d 34 (.call 292 [33,(.const (.i 1))]))]) (.seq (.ops [(.d 35 (.mv 0)),(.d 36 (.aJ 35)),(.d 37 (.aB 1 36)),(.d 38 (.load none 37)),(.d 39 (.mv 3)),(.d 40 (.qx 39)),(.d 41 (.bin .add (.const (.i 1)) 40)),(.d 42 (.bin .add 38 41)),(.d 43 (.aJ 35)),(.d 44 (.aB 1 43)),(.n (.store 1 44 42))]) .ret)) .skip)) (.seq (.draw [(.d 45 (.mv 0)),(.d 46 (.mv 0)),(.d 47 (.aJ 46)),(.d 48 (.aB 2 47)),(.d 49 (.load none 48)),(.d 50 (.mv 0)),(.d 51 (.aJ 50)),(.d 52 (.aB 1 51)),(.d 53 (.load none 52)),(.d 54 (.mv 6)),(.d 55 (.build [(.i 0),(.i 0),(.str [])] [(0,(1,(.const (.i 4)))),(1,(1,53)),(2,(1,54))])),(.d 56 (.lit 3 32 [] 1 [(0,55)]))] [(.d 57 (.append 3 32 282 49 56)),(.d 58 (.aJ 45)),(.d 59 (.aB 2 58)),(.n (.store 1 59 57))]) (.ops [(.d 60 (.mv 0)),(.d 61 (.aJ 60)),(.d 62 (.aB 1 61)),(.d 63 (.load none 62)),(.d 64 (.mv 6)),(.d 65 (.qx 64)),(.d 66 (.bin .add 65 (.const (.i 2)))),(.d 67 (.bin .add 63 66)),(.d 68 (.aJ 60)),(.d 69 (.aB 1 68)),(.n (.store 1 69 67))])))))))
def OZ :aM:=(.mk 2 19 [] (.draw [(.d 4 (.mv 0)),(.d 5 (.mv 0)),(.d 6 (.aJ 5)),(.d 7 (.aB 3 6)),(.d 8 (.load none 7)),(.d 9 (.mv 0)),(.d 10 (.aJ 9)),(.d 11 (.aB 1 10)),(.d 12 (.load none 11)),(.d 13 (.mv 1)),(.d 14 (.build [(.i 0),(.i 0),(.str [])] [(0,(1,12)),(1,(1,13))])),(.d 15 (.lit 3 32 [] 1 [(0,14)]))] [(.d 16 (.append 3 32 333 8 15)),(.d 17 (.aJ 4)),(.d 18 (.aB 3 17)),(.n (.store 1 18 16))]))
def O0 :aM:=(.mk 2 8 [4] (.seq (.ops [(.d 4 (.mv (.const (.bool false))))]) (.seq (.ops [(.d 5 (.mv 0)),(.d 6 (.mv 1)),(.d 7 (.call 305 [5,6])),(.d 4 (.mv 7))]) .ret)))
def Lf :aM:=(.mk 2 18 [4] (.seq (.ops [(.d 4 (.mv (.const (.bool false))))]) (.seq (.ops [(.d 5 (.mv 0)),(.d 6 (.qx 5)),(.d 7 (.mv 1)),(.d 8 (.qx 7)),(.d 9 (.bin .geq 6 8)),(.d 10 (.mv 9)),(.g 11 (.mv 0) 10 true),(.g 12 (.mv 1) 10 true),(.g 13 (.qx 12) 10 true),(.g 14 (.wW 11 none (some 13)) 10 true),(.g 15 (.mv 1) 10 true),(.g 16 (.bin .eql 14 15) 10 true),(.d 17 (.pick 10 16 (.const (.bool false)))),(.d 4 (.mv 17))]) .ret)))
end Go.Ag
/- Package lex: what a byte is, words, prefixes. -/
namespace Go.Ag
open Go
variable {T : Tab} {L : Lnk}
theorem GV {p:UInt8→Bool} (h:(List.range 256).all (fun n=>p (UInt8.ofNat n))=true) (c:UInt8):p c=true:=by
 have:=List.all_eq_true.1 h c.toNat (List.mem_range.2 c.toNat_lt);rwa[show UInt8.ofNat c.toNat=c from UInt8.ofNat_toNat]at this
def ZN (n:Int):Bool:=(decide (n≥97)&&decide (n≤122))||(n==95)
def Zz (n:Int):Bool:=decide (n≥48)&&decide (n≤57)
theorem ZM (c:UInt8):ZN c.toNat=inA c nE:=beq_iff_eq.1 (GV (p:=fun c=>ZN c.toNat==inA c nE) (by kernel_rfl) c)
theorem Zy (c:UInt8):Zz c.toNat=inA c bD:=beq_iff_eq.1 (GV (p:=fun c=>Zz c.toNat==inA c bD) (by kernel_rfl) c)
theorem Vt (c:UInt8):inA c bW=(inA c nE||inA c bD):=by
 unfold inA;rw[show bW=nE ++bD from rfl,List.any_append]
theorem Ie (c:UInt8):∀x∈[au.int .u8 c.toNat],Low 0 x:=fun x hx=>by simp only[List.mem_singleton]at hx;subst hx;exact .int _ _
theorem BH (h:T.has 284 Li) (c:UInt8):Pure T.L 284 [.int .u8 c.toNat] (.bool (inA c nE)):=by
 refine Pure.run (Ie c) (.bool _) (aG h (by simp[Li]) ?_);rw[←ZM];generalize (c.toNat:Int)=n;unfold ZN;conv=>whnf
 cases h1:decide (n≥97)
 ·conv=>whnf
  exact aH (Weak.refl _)
 ·conv=>whnf
  cases h2:decide (n≤122)
  ·conv=>whnf
   exact aH (Weak.refl _)
  ·conv=>whnf
   exact aH (Weak.refl _)
theorem yc (h:T.has 288 Lh) (c:UInt8):Pure T.L 288 [.int .u8 c.toNat] (.bool (inA c bD)):=by
 refine Pure.run (Ie c) (.bool _) (aG h (by simp[Lh]) ?_);rw[←Zy];generalize (c.toNat:Int)=n;unfold Zz;conv=>whnf
 cases h1:decide (n≥48)
 ·conv=>whnf
  exact aH (Weak.refl _)
 ·conv=>whnf
  exact aH (Weak.refl _)
theorem Q5 (h:T.has 285 O4) (h4:T.has 284 Li) (h8:T.has 288 Lh) (c:UInt8):Pure T.L 285 [.int .u8 c.toNat] (.bool (inA c bW)):=by
 refine Pure.run (Ie c) (.bool _) (aG h (by simp[O4]) ?_);rw[Vt];conv=>whnf
 refine(BH h4 c).to ?_;cases h1:inA c nE
 ·conv=>whnf
  refine(yc h8 c).to ?_;conv=>whnf
  exact aH (Weak.refl _)
 ·conv=>whnf
  exact aH (Weak.refl _)
theorem Wv (h:T.has 283 O5) (c:UInt8):Pure T.L 283 [.int .u8 c.toNat] (.bool (!inA c [10])):=by
 refine Pure.run (Ie c) (.bool _) (aG h (by simp[O5]) ?_);conv=>whnf
 refine⟨_,rfl,?_⟩;rw[show((c.toNat:Int) !=10)= !inA c [10]from beq_iff_eq.1 (GV (p:=fun c=>((c.toNat:Int) !=10)== !inA c [10]) (by kernel_rfl) c)];exact Weak.refl _
theorem Mx (h:T.has 286 O3) (s:Bytes):Pure T.L 286 [.str s] (.bool (qO s)):=by
 refine Pure.run (fun x hx=>by simp only[List.mem_singleton]at hx;subst hx;exact .str _) (.bool _) (aG h (by simp[O3]) ?_)
 have yes:∀w∈eY,(s==w)=true→qO s=true:=fun w hw he=>by
  unfold qO;exact List.any_eq_true.2 ⟨w,hw,by rw[beq_iff_eq]at he⊢;exact he.symm⟩
 have no:(∀w∈eY,(s==w)=false)→qO s=false:=fun h=>by
  unfold qO;rw[List.any_eq_false];intro w hw he;have:=h w hw;rw[beq_iff_eq]at he;rw[he]at this;simp at this
 conv=>whnf
 cases h0:(s==([117,115,101]:Bytes))
 rotate_left
 ·conv=>whnf
  rw[yes _ (by simp[eY]) h0];exact aH (Weak.refl _)
 conv=>whnf
 cases h1:(s==([116,121,112,101]:Bytes))
 rotate_left
 ·conv=>whnf
  rw[yes _ (by simp[eY]) h1];exact aH (Weak.refl _)
 conv=>whnf
 cases h2:(s==([108,101,116]:Bytes))
 rotate_left
 ·conv=>whnf
  rw[yes _ (by simp[eY]) h2];exact aH (Weak.refl _)
 conv=>whnf
 cases h3:(s==([105,110]:Bytes))
 rotate_left
 ·conv=>whnf
  rw[yes _ (by simp[eY]) h3];exact aH (Weak.refl _)
 conv=>whnf
 cases h4:(s==([105,102]:Bytes))
 rotate_left
 ·conv=>whnf
  rw[yes _ (by simp[eY]) h4];exact aH (Weak.refl _)
 conv=>whnf
 cases h5:(s==([116,104,101,110]:Bytes))
 rotate_left
 ·conv=>whnf
  rw[yes _ (by simp[eY]) h5];exact aH (Weak.refl _)
 conv=>whnf
 cases h6:(s==([101,108,115,101]:Bytes))
 rotate_left
 ·conv=>whnf
  rw[yes _ (by simp[eY]) h6];exact aH (Weak.refl _)
 conv=>whnf
 cases h7:(s==([102,117,110]:Bytes))
 rotate_left
 ·conv=>whnf
  rw[yes _ (by simp[eY]) h7];exact aH (Weak.refl _)
 conv=>whnf
 cases h8:(s==([116,114,117,101]:Bytes))
 rotate_left
 ·conv=>whnf
  rw[yes _ (by simp[eY]) h8];exact aH (Weak.refl _)
 conv=>whnf
 cases h9:(s==([102,97,108,115,101]:Bytes))
 rotate_left
 ·conv=>whnf
  rw[yes _ (by simp[eY]) h9];exact aH (Weak.refl _)
 conv=>whnf
 cases h10:(s==([105,110,116]:Bytes))
 rotate_left
 ·conv=>whnf
  rw[yes _ (by simp[eY]) h10];exact aH (Weak.refl _)
 conv=>whnf
 cases h11:(s==([98,111,111,108]:Bytes))
 rotate_left
 ·conv=>whnf
  rw[yes _ (by simp[eY]) h11];exact aH (Weak.refl _)
 conv=>whnf
 cases h12:(s==([116,101,120,116]:Bytes))
 rotate_left
 ·conv=>whnf
  rw[yes _ (by simp[eY]) h12];exact aH (Weak.refl _)
 conv=>whnf
 rw[no (by intro w hw;simp only[eY,List.mem_cons,List.not_mem_nil,or_false]at hw;rcases hw with rfl|rfl|rfl|rfl|rfl|rfl|rfl|rfl|rfl|rfl|rfl|rfl|rfl<;>assumption)];exact aH (Weak.refl _)
theorem HY (h:T.has 305 Lf) (s w:Bytes):Pure T.L 305 [.str s,.str w] (.bool (decide (w.length≤s.length)&&s.take w.length==w)):=by
 refine Pure.run (fun x hx=>by simp only[List.mem_cons,List.not_mem_nil,or_false]at hx;rcases hx with rfl|rfl<;>constructor) (.bool _) (aG h (by simp[Lf]) ?_);conv=>whnf
 rcases Nat.lt_or_ge s.length w.length with hl|hl
 ·rw[show decide ((s.length:Int)≥(w.length:Int))=false from by simp;omega]
  conv=>whnf
  rw[show decide (w.length≤s.length)=false from by simp;omega];exact aH (Weak.refl _)
 ·rw[show decide ((s.length:Int)≥(w.length:Int))=true from by simp;omega]
  conv=>whnf
  refine⟨Nat.zero_le _,hl,?_⟩;conv=>whnf
  rw[show decide (w.length≤s.length)=true from by simp;omega];exact aH (Weak.refl _)
theorem JR (h:T.has 291 O0) (h5:T.has 305 Lf) (s w:Bytes):Pure T.L 291 [.str s,.str w] (.bool (decide (w.length≤s.length)&&s.take w.length==w)):=by
 refine Pure.run (fun x hx=>by simp only[List.mem_cons,List.not_mem_nil,or_false]at hx;rcases hx with rfl|rfl<;>constructor) (.bool _) (aG h (by simp[O0]) ?_);conv=>whnf
 refine(HY h5 s w).to ?_;conv=>whnf
 exact aH (Weak.refl _)
end Go.Ag
/- Package lex: the scanner's methods. -/
namespace Go.Ag
open Go
variable {T : Tab} {L : Lnk}
structure SC where
 src:Bytes
 at_:Nat
 toks:List dA
 diags:List bO
structure SC.ok (s:SC):Prop where
 src:s.src.length≤2^31
 at_:s.at_≤s.src.length
 toks:s.toks.length≤s.at_
 diags:s.diags.length≤s.at_
def tav (l:List dA) (id:Nat):au:=.lst (l.map dA.av) (bK l.length id)
def dav (l:List bO) (id:Nat):au:=.lst (l.map bO.av) (bK l.length id)
def sobj (s:SC):aU:=.cells [.str s.src,.int .i64 s.at_,tav s.toks 0,dav s.diags 1] 299
def uV (s:SC):Heap:=[bC s.toks.length 282,bC s.diags.length 333,sobj s]
theorem Ab (s:SC):∀o∈uV s,bI 3 o:=fun o ho=>by
 simp only[uV,List.mem_cons,List.not_mem_nil,or_false]at ho;rcases ho with rfl|rfl|rfl
 ·exact bG _ _ _
 ·exact bG _ _ _
 ·exact dH ⟨.str _,.int _ _,jO _ _ _ (dO (by decide)),gM _ _ _ (dO (by decide)),trivial⟩
def SK (L:Lnk) (f:Nat) (args:List au) (s:SC) (y:au) (s':SC):Prop:=bX L f (.ptr 2 0::args) (uV s) y (uV s')
theorem bJ.list {K H:Heap} (h:K=H):∀(i:Nat) (o o':aU),K[i]?=some o→H[i]?=some o'→bJ L o o':=fun i o o' h1 h2=>by
 subst h;rw[h1]at h2;cases h2;exact bJ.refl o
theorem SK.of {f:Nat} {args:List au} {s s':SC} {y:au} (hy:Low 3 y)
  (h:aC L f (.ptr 2 0::args) (uV s) fun r H'=>∃x J,r=.ret x∧Weak L x y∧H'=uV s' ++J):SK L f args s y s':=
 bX.of 0 rfl hy (Ab s') (by
  rw[List.replicate_zero,List.append_nil]
  exact h.mono fun r H' ⟨x,J,e1,e2,e3⟩=>⟨x,uV s',J,e1,e2,e3,rfl,bJ.list rfl⟩)
theorem SK.to {f:Nat} {args:List au} {s s':SC} {y:au} (h:SK L f args s y s') (hargs:∀x∈args,Low 3 x) (hy:Low 3 y) {H:Heap} {K KP:au→Heap→Prop} (J:Heap) (hH:H=uV s ++J) (hk:K y (uV s' ++J)):
  aC L f (.ptr 2 0::args) H (eB K KP):=by
 subst hH
 exact(bX.at h rfl (fun x hx=>by
  rcases List.mem_cons.1 hx with rfl|hx
  ·exact .ptr _ _ (show 2<3 by decide)
  ·exact hargs x hx) (Ab s) hy (Ab s') J).mono fun r H' ⟨e1,e2⟩=>by subst e1 e2;exact hk
theorem zC {s:SC} (hs:s.ok) (t:dA) {y:au} (hy:y=t.av) {tk0:Tok} {H:Heap} {K:au→Heap→Prop} (h0:H[0]?=some (bC s.toks.length 282))
  (h:K (tav (s.toks ++[t]) 0) (H.set 0 (bC (s.toks ++[t]).length 282))):lH 3 32 282 (.lst (s.toks.map dA.av) (bK s.toks.length 0)) (.lst [y] tk0) H K:=by
 have hl:=hs.toks;have:=hs.at_;have:=hs.src;have e1:s.toks.length=(s.toks.map dA.av).length:=by simp
 have:=dS (xs:=s.toks.map dA.av) (ys:=[y]) (k:=3) (bytes:=32) (t:=282) (id:=0) (tk0:=tk0) (H:=H) (K:=K) (tL _) (bP (by rw[hy];rfl)) (by simp;omega) (by simp;omega) (by simp) (by rw[←e1];exact h0) (by
  rw[hy];unfold tav at h;rw[List.map_append,List.length_append,e1]at h;rw[List.length_append]
  exact h)
 rw[←e1]at this;exact this
theorem ZO {s:SC} (hs:s.ok) (t:bO) {y:au} (hy:y=t.av) {tk0:Tok} {H:Heap} {K:au→Heap→Prop} (h0:H[1]?=some (bC s.diags.length 333))
  (h:K (dav (s.diags ++[t]) 1) (H.set 1 (bC (s.diags ++[t]).length 333))):lH 3 32 333 (.lst (s.diags.map bO.av) (bK s.diags.length 1)) (.lst [y] tk0) H K:=by
 have hl:=hs.diags;have:=hs.at_;have:=hs.src;have e1:s.diags.length=(s.diags.map bO.av).length:=by simp
 have:=dS (xs:=s.diags.map bO.av) (ys:=[y]) (k:=3) (bytes:=32) (t:=333) (id:=1) (tk0:=tk0) (H:=H) (K:=K) (qR _) (bP (by rw[hy];rfl)) (by simp;omega) (by simp;omega) (by simp) (by rw[←e1];exact h0) (by
  rw[hy];unfold dav at h;rw[List.map_append,List.length_append,e1]at h;rw[List.length_append]
  exact h)
 rw[←e1]at this;exact this
theorem wrapN {n:Nat} {a b:Int} (h:a+b=n) (hn:n≤2^60):IntKind.i64.wrap (a+b)=(n:Int):=by rw[IntWalk.i64_in _ (by omega)];exact h
theorem CX (h:T.has 282 O6) {g:Nat} {p:UInt8→Bool} (hp:∀c:UInt8,Pure T.L g [.int .u8 c.toNat] (.bool (p c))) (s:SC) (hs:s.src.length≤2^31) (fr:Nat) (hf:fr≤s.src.length):
  SK T.L 282 [.int .i64 fr,.fn (.func g) [] []] s (.int .i64 (iI p s.src fr-fr:Nat)) s:=by
 refine SK.of (.int _ _) (aG h (by simp[O6]) ?_);conv=>whnf
 intro I hI hG
 have key:∀(d k:Nat) (e:Env),s.src.length-(fr+k)=d→fr+k≤s.src.length→iI p s.src fr=iI p s.src (fr+k)→
   I (gB e [(0,.ptr 2 0),(1,.int .i64 fr),(2,.fn (.func g) [] []),(7,.int .i64 k)]) (uV s):=by
  intro d
  induction d with
  |zero=>
   intro k e hd hk hv;apply hI;conv=>whnf
   rw[wrapN (n:=fr+k) (by omega) (by omega),bU (by omega)];conv=>whnf
   rw[hv,CS (by omega),Nat.add_sub_cancel_left];exact⟨_,[],rfl,Weak.refl _,(List.append_nil _).symm⟩
  |succ d ih=>
   intro k e hd hk hv;have hlt:fr+k<s.src.length:=by omega
   apply hI;conv=>whnf
   rw[wrapN (n:=fr+k) (by omega) (by omega),dz hlt];conv=>whnf
   rw[wrapN (n:=fr+k) (by omega) (by omega)];refine oZ hlt ?_;conv=>whnf
   refine(hp _).to ?_;cases hc:p s.src[fr+k]
   ·conv=>whnf
    rw[hv,G9 hlt hc,Nat.add_sub_cancel_left];exact⟨_,[],rfl,Weak.refl _,(List.append_nil _).symm⟩
   ·conv=>whnf
    refine inv_of [(0,.ptr 2 0),(1,.int .i64 fr),(2,.fn (.func g) [] []),(7,.int .i64 (k+1:Nat))] ⟨rfl,rfl,rfl,add1 (by omega),trivial⟩ (ih (k+1) _ (by omega) (by omega) ?_);rw[hv,rY hlt hc];rfl
 exact inv_of [(0,.ptr 2 0),(1,.int .i64 fr),(2,.fn (.func g) [] []),(7,.int .i64 0)] ⟨rfl,rfl,rfl,rfl,trivial⟩ (key (s.src.length-fr) 0 _ rfl hf rfl)
def Gz (s:SC) (kind:Int) (n:Nat):SC:={s with toks:=s.toks ++[⟨kind,s.at_,ku s.src s.at_ (s.at_+n)⟩],at_:=s.at_+n}
theorem su (h:T.has 287 O1) (s:SC) (hs:s.ok) (kind:Int) (n:Nat) (hn:s.at_+n≤s.src.length):SK T.L 287 [.int .i64 kind,.int .i64 n] s (.tup []) (Gz s kind n):=by
 have:=hs.src;refine SK.of bH (aG h (by simp[O1]) ?_);conv=>whnf
 rw[wrapN (n:=s.at_+n) (by omega) (by omega)];refine⟨Nat.le_add_right _ _,hn,?_⟩;conv=>whnf
 refine zC hs ⟨kind,s.at_,ku s.src s.at_ (s.at_+n)⟩ rfl rfl ?_;conv=>whnf
 rw[wrapN (n:=s.at_+n) (by omega) (by omega)];exact⟨_,[],rfl,Weak.refl _,(List.append_nil _).symm⟩
def N7 (s:SC) (code:Int):SC:={s with diags:=s.diags ++[⟨s.at_,code,[]⟩]}
theorem xP (h:T.has 292 OZ) (s:SC) (hs:s.ok) (code:Int):SK T.L 292 [.int .i64 code] s (.tup []) (N7 s code):=by
 refine SK.of bH (aG h (by simp[OZ]) ?_);conv=>whnf
 refine ZO hs ⟨s.at_,code,[]⟩ rfl rfl ?_;conv=>whnf
 exact⟨_,[],rfl,Weak.refl _,(List.append_nil _).symm⟩
end Go.Ag
/- Package lex: numbers, texts, the next token, Lex. -/
namespace Go.Ag
open Go
variable {T : Tab} {L : Lnk}
def En (c:UInt8) (s:Bytes):Bytes×Bytes×Bool:=(s.takeWhile (· !=c),(s.dropWhile (· !=c)).drop 1,s.any (· ==c))
structure VF (L:Lnk):Prop where
 cut:∀(c:UInt8) (s:Bytes),s.length≤2^31→Pure L 22 [.str s,.str [c]] (.tup [.str (En c s).1,.str (En c s).2.1,.bool (En c s).2.2])
 idx:∀c:UInt8,∃n:Int,decide (n≥0)=inA c lu∧Pure L 49 [.str lu,.int .u8 c.toNat] (.int .i64 n)
structure yx (T:Tab):Prop where
 XF:T.has 215 UZ
 Xq:T.has 246 UF
 QN:T.has 282 O6
 Xe:T.has 283 O5
 TB:T.has 284 Li
 Xd:T.has 285 O4
 Xc:T.has 286 O3
 KE:T.has 287 O1
 QM:T.has 288 Lh
 Xb:T.has 289 Us
 Xa:T.has 290 Ur
 W9:T.has 291 O0
 QL:T.has 292 OZ
 WX:T.has 305 Lf
 lib:VF T.L
def AR (s:SC) (c:UInt8):SC:={s with at_:=(bB s.src s.at_ c).1,toks:=s.toks ++(bB s.src s.at_ c).2.1,diags:=s.diags ++(bB s.src s.at_ c).2.2}
theorem uh (a:Nat) (g:Nat):∀x∈[au.int .i64 a,.fn (.func g) [] []],Low 3 x:=fun x hx=>by
 simp only[List.mem_cons,List.not_mem_nil,or_false]at hx;rcases hx with rfl|rfl
 ·exact .int _ _
 ·exact .fn _ _ _ (fun x hx=>by cases hx) (fun x hx=>by cases hx)
theorem Qs {n:Nat} {x y:au} (hx:Low n x) (hy:Low n y):∀z∈[x,y],Low n z:=fun z hz=>by
 simp only[List.mem_cons,List.not_mem_nil,or_false]at hz;rcases hz with rfl|rfl<;>assumption
def Za (s:SC):SC:=
 if 18<bR s.src s.at_ bD-s.at_ then{s with at_:=bR s.src s.at_ bD,toks:=s.toks ++[⟨3,s.at_,[48]⟩],diags:=s.diags ++[⟨s.at_,13,[]⟩]}
 else{s with at_:=bR s.src s.at_ bD,toks:=s.toks ++[⟨3,s.at_,ku s.src s.at_ (bR s.src s.at_ bD)⟩]}
theorem H9 (F:yx T) (s:SC) (hs:s.ok) (h1:s.at_<s.src.length):SK T.L 289 [] s (.tup []) (Za s):=by
 have:=hs.src;refine SK.of bH (aG F.Xb (by simp[Us]) ?_);conv=>whnf
 refine(CX F.QN (yc F.QM) s hs.src s.at_ (by omega)).to (uh _ _) (.int _ _) [] (List.append_nil _).symm ?_;have hw:iI (fun c=>inA c bD) s.src s.at_=bR s.src s.at_ bD:=rfl;rw[hw];have hle:=lQ (p:=(inA · bD)) (src:=s.src) (k:=s.at_) (by omega);rw[show iI (inA · bD) s.src s.at_=bR s.src s.at_ bD from rfl]at hle;unfold Za;generalize bR s.src s.at_ bD=e at hle⊢;conv=>whnf
 by_cases hn:18<e-s.at_
 ·rw[if_pos hn,show decide (((e-s.at_:Nat):Int)≤18)=false from by simp;omega]
  conv=>whnf
  refine(xP F.QL s hs 13).to (dD (.int _ _)) bH [] (List.append_nil _).symm ?_;unfold N7;conv=>whnf
  refine zC hs ⟨3,s.at_,[48]⟩ rfl rfl ?_;conv=>whnf
  dsimp only;rw[wrapN (n:=e) (by omega) (by omega)];exact⟨_,[],rfl,Weak.refl _,(List.append_nil _).symm⟩
 ·rw[if_neg hn,show decide (((e-s.at_:Nat):Int)≤18)=true from by simp;omega]
  conv=>whnf
  refine(su F.KE s hs 3 (e-s.at_) (by omega)).to (Qs (.int _ _) (.int _ _)) bH [] (List.append_nil _).symm ?_;have e1:s.at_+(e-s.at_)=e:=by omega
  unfold Gz;rw[e1];conv=>whnf
  exact⟨_,[],rfl,Weak.refl _,(List.append_nil _).symm⟩
theorem CJ :∀rest:Bytes,(rest.takeWhile (· !=10)).takeWhile (· !=34)=rest.takeWhile (fun c=> !inA c [34,10])∧
  (rest.takeWhile (· !=10)).any (· ==34)=(rest[(rest.takeWhile (fun c=> !inA c [34,10])).length]?==some 34)∧
  ((rest.takeWhile (· !=10)).any (· ==34)=false→rest.takeWhile (· !=10)=rest.takeWhile (fun c=> !inA c [34,10]))
 |[]=>⟨rfl,rfl,fun _=>rfl⟩
 |c::rest=>by
  obtain⟨i1,i2,i3⟩:=CJ rest;have hin:inA c [34,10]=(c==34||c==10):=by simp[inA,Bool.beq_comm]
  by_cases h10:c=10
  ·subst h10;exact⟨by simp[List.takeWhile,inA],by simp[List.takeWhile,inA],fun _=>by simp[List.takeWhile,inA]⟩
  ·have e10:(c !=10)=true:=by simpa using h10
   rw[List.takeWhile_cons_of_pos (p:=(· !=10)) e10]
   by_cases h34:c=34
   ·subst h34
    refine⟨by simp[List.takeWhile,inA],by simp[List.takeWhile,inA],fun h=>by simp at h⟩
   ·have e34:(c !=34)=true:=by simpa using h34
    have hq:(!inA c [34,10])=true:=by rw[hin];simp[h34,h10]
    rw[List.takeWhile_cons_of_pos (p:=(· !=34)) e34,List.takeWhile_cons_of_pos (p:=fun c=> !inA c [34,10]) hq,i1];refine⟨rfl,?_,fun h=>?_⟩
    ·rw[List.any_cons,show(c==34)=false from by simpa using h34,Bool.false_or,i2,List.length_cons,List.getElem?_cons_succ]
    ·rw[List.any_cons,show(c==34)=false from by simpa using h34,Bool.false_or]at h
     rw[i3 h]
def RY (s:SC):SC:=
 if s.src[eZ s.src (s.at_+1) [34,10]]?=some 34 then{s with at_:=eZ s.src (s.at_+1) [34,10]+1,toks:=s.toks ++[⟨4,s.at_,ku s.src (s.at_+1) (eZ s.src (s.at_+1) [34,10])⟩]}
 else{s with at_:=eZ s.src (s.at_+1) [34,10],diags:=s.diags ++[⟨s.at_,1,[]⟩]}
theorem Me (F:yx T) (s:SC) (hs:s.ok) (h1:s.at_<s.src.length):SK T.L 290 [] s (.tup []) (RY s):=by
 have:=hs.src;refine SK.of bH (aG F.Xa (by simp[Ur]) ?_);obtain⟨rest,hrest⟩:∃rest,s.src.drop (s.at_+1)=rest:=⟨_,rfl⟩;obtain⟨t1,t2,t3⟩:=CJ rest;have hl:rest.length=s.src.length-(s.at_+1):=by rw[←hrest];simp
 obtain⟨w,hw⟩:∃w,rest.takeWhile (fun c=> !inA c [34,10])=w:=⟨_,rfl⟩;rw[hw]at t1 t2 t3;have hu:eZ s.src (s.at_+1) [34,10]=s.at_+1+w.length:=by unfold eZ iI;rw[hrest,hw]
 have hwl:w.length≤rest.length:=by rw[←hw];exact(List.takeWhile_sublist _).length_le
 have hline:(rest.takeWhile (· !=10)).length≤rest.length:=(List.takeWhile_sublist _).length_le;have hat:s.src[s.at_+1+w.length]?=rest[w.length]?:=by rw[←hrest,List.getElem?_drop]
 have hsub:ku s.src (s.at_+1) (s.at_+1+w.length)=w:=by
  unfold ku;rw[List.drop_take,hrest,Nat.add_sub_cancel_left];rw[←hw];exact List.prefix_iff_eq_take.1 (List.takeWhile_prefix _)|>.symm
 unfold RY;rw[hu,hat,hsub];conv=>whnf
 rw[wrapN (n:=s.at_+1) (by omega) (by omega)];refine⟨h1,Nat.le_refl _,?_⟩;rw[List.take_length,show((s.at_+1:Nat):Int).toNat=s.at_+1 from rfl,hrest];conv=>whnf
 refine(F.lib.cut 10 rest (by omega)).to ?_;unfold En;conv=>whnf
 refine(F.lib.cut 34 (rest.takeWhile (· !=10)) (by omega)).to ?_;unfold En;rw[t1];conv=>whnf
 cases hc:(rest.takeWhile (· !=10)).any (· ==34)
 ·rw[hc]at t2
  rw[if_neg (by intro e;rw[e]at t2;simp at t2)];conv=>whnf
  refine(xP F.QL s hs 1).to (dD (.int _ _)) bH [] (List.append_nil _).symm ?_;unfold N7;conv=>whnf
  dsimp only;rw[t3 hc,wrapN (a:=1) (b:=(w.length:Int)) (n:=1+w.length) (by omega) (by omega),wrapN (n:=s.at_+1+w.length) (by omega) (by omega)];exact⟨_,[],rfl,Weak.refl _,(List.append_nil _).symm⟩
 ·rw[hc]at t2
  rw[if_pos (by simpa using t2.symm)];conv=>whnf
  refine zC hs ⟨4,s.at_,w⟩ rfl rfl ?_;conv=>whnf
  rw[wrapN (a:=(w.length:Int)) (b:=2) (n:=w.length+2) (by omega) (by omega),wrapN (n:=s.at_+1+w.length+1) (by omega) (by omega)];exact⟨_,[],rfl,Weak.refl _,(List.append_nil _).symm⟩
end Go.Ag
/- Package lex: the next token, Lex. -/
namespace Go.Ag
open Go
variable {T : Tab} {L : Lnk}
theorem ws_eq (c:UInt8):inA c wsL=(c==32||(c==9||(c==10||c==13))):=beq_iff_eq.1 (GV (p:=fun c=>inA c wsL==(c==32||(c==9||(c==10||c==13)))) (by kernel_rfl) c)
theorem MQ (F:yx T) (s:SC) (hs:s.ok) (h1:s.at_<s.src.length):SK T.L 246 [] s (.tup []) (AR s s.src[s.at_]):=by
 have:=hs.src;refine SK.of bH (aG F.Xq (by simp[UF]) ?_);conv=>whnf
 refine oZ h1 ?_;obtain⟨c,hc⟩:∃c,s.src[s.at_]=c:=⟨_,rfl⟩;rw[hc];obtain⟨R,hR⟩:∃R,bB s.src s.at_ c=R:=⟨_,rfl⟩;rw[show AR s c={s with at_:=R.1,toks:=s.toks ++R.2.1,diags:=s.diags ++R.2.2}from by unfold AR;rw[hR]];rw[bB]at hR;have ws:=ws_eq c;conv=>whnf
 rw[show((c.toNat:Int)==32)=(c==32)from oC c 32];cases h32:(c==32)
 ·conv=>whnf
  rw[show((c.toNat:Int)==9)=(c==9)from oC c 9];cases h9:(c==9)
  ·conv=>whnf
   rw[show((c.toNat:Int)==10)=(c==10)from oC c 10];cases h10:(c==10)
   ·conv=>whnf
    rw[show((c.toNat:Int)==13)=(c==13)from oC c 13];cases h13:(c==13)
    ·rw[h32,h9,h10,h13,Bool.false_or,Bool.false_or,Bool.false_or]at ws
     rw[if_neg (by simp[ws])]at hR;clear ws;conv=>whnf
     rw[show((c.toNat:Int)==35)=(c==35)from oC c 35];cases h35:(c==35)
     ·rw[if_neg (by simp[h35])]at hR
      conv=>whnf
      refine(BH F.TB c).to ?_;cases hb:inA c nE
      ·rw[if_neg (by simp[hb])]at hR
       conv=>whnf
       refine(yc F.QM c).to ?_;cases hd:inA c bD
       ·rw[if_neg (by simp[hd])]at hR
        conv=>whnf
        rw[show((c.toNat:Int)==34)=(c==34)from oC c 34];cases h34:(c==34)
        ·rw[if_neg (by simp[h34])]at hR
         conv=>whnf
         refine⟨Nat.le_of_lt h1,Nat.le_refl _,?_⟩;rw[List.take_length,show((s.at_:Nat):Int).toNat=s.at_ from rfl];conv=>whnf
         refine(JR F.W9 F.WX _ _).to ?_
         have hpre:(decide (([45,62]:Bytes).length≤(s.src.drop s.at_).length)&&(s.src.drop s.at_).take ([45,62]:Bytes).length==([45,62]:Bytes))=decide ((c==45)=true∧s.src[s.at_+1]?=some 62):=by
          rw[Bool.eq_iff_iff];rw[List.drop_eq_getElem_cons h1,hc];rw[show s.src[s.at_+1]?=(s.src.drop (s.at_+1))[0]? from by rw[List.getElem?_drop]]
          cases hq:s.src.drop (s.at_+1)with
          |nil=>simp
          |cons x xs=>simp
         rw[hpre]
         by_cases h45:(c==45)=true∧s.src[s.at_+1]?=some 62
         ·rw[if_pos h45]at hR
          rw[decide_eq_true h45];subst hR;conv=>whnf
          have hx:s.at_+2≤s.src.length:=by
           have:=(List.getElem?_eq_some_iff.1 h45.2).1;omega
          refine(su F.KE s hs 5 2 hx).to (Qs (.int _ _) (.int _ _)) bH [] (List.append_nil _).symm ?_;unfold Gz;conv=>whnf
          have hsub:ku s.src s.at_ (s.at_+2)=[45,62]:=by
           have e1:=(List.getElem?_eq_some_iff.1 h45.2);unfold ku;rw[List.drop_take,Nat.add_sub_cancel_left,List.drop_eq_getElem_cons h1,hc,List.drop_eq_getElem_cons e1.1,e1.2,beq_iff_eq.1 h45.1];rfl
          dsimp only;rw[hsub,List.append_nil s.diags];exact⟨_,[],rfl,Weak.refl _,(List.append_nil _).symm⟩
         ·rw[if_neg h45]at hR
          rw[decide_eq_false h45];conv=>whnf
          obtain⟨n,hn,hidx⟩:=F.lib.idx c;refine hidx.to ?_;conv=>whnf
          rw[show(decide (n≥0))=inA c lu from hn];cases hs2:inA c lu
          ·rw[if_neg (by simp[hs2])]at hR
           subst hR;conv=>whnf
           refine(xP F.QL s hs 1).to (dD (.int _ _)) bH [] (List.append_nil _).symm ?_;unfold N7;conv=>whnf
           dsimp only;rw[wrapN (n:=s.at_+1) (by omega) (by omega),List.append_nil s.toks];exact⟨_,[],rfl,Weak.refl _,(List.append_nil _).symm⟩
          ·rw[if_pos hs2]at hR
           subst hR;conv=>whnf
           refine(su F.KE s hs 5 1 h1).to (Qs (.int _ _) (.int _ _)) bH [] (List.append_nil _).symm ?_;unfold Gz;conv=>whnf
           dsimp only;rw[List.append_nil s.diags];exact⟨_,[],rfl,Weak.refl _,(List.append_nil _).symm⟩
        ·rw[if_pos h34]at hR
         conv=>whnf
         refine(Me F s hs h1).to (fun x hx=>by cases hx) bH [] (List.append_nil _).symm ?_;unfold RY;conv=>whnf
         have he:∀b:Prop,[Decidable b]→True:=fun _ _=>trivial
         by_cases hq:s.src[eZ s.src (s.at_+1) [34,10]]?=some 34
         ·rw[if_pos hq]at hR⊢
          subst hR;dsimp only;rw[List.append_nil s.diags];exact⟨_,[],rfl,Weak.refl _,(List.append_nil _).symm⟩
         ·rw[if_neg hq]at hR⊢
          subst hR;dsimp only;rw[List.append_nil s.toks];exact⟨_,[],rfl,Weak.refl _,(List.append_nil _).symm⟩
       ·rw[if_pos hd]at hR
        conv=>whnf
        refine(H9 F s hs h1).to (fun x hx=>by cases hx) bH [] (List.append_nil _).symm ?_;unfold Za;conv=>whnf
        by_cases hq:18<bR s.src s.at_ bD-s.at_
        ·rw[if_pos hq]at hR⊢
         subst hR;exact⟨_,[],rfl,Weak.refl _,(List.append_nil _).symm⟩
        ·rw[if_neg hq]at hR⊢
         subst hR;dsimp only;rw[List.append_nil s.diags];exact⟨_,[],rfl,Weak.refl _,(List.append_nil _).symm⟩
      ·rw[if_pos hb]at hR
       conv=>whnf
       refine(CX F.QN (Q5 F.Xd F.TB F.QM) s hs.src s.at_ (by omega)).to (uh _ _) (.int _ _) [] (List.append_nil _).symm ?_;rw[show iI (fun c=>inA c bW) s.src s.at_=bR s.src s.at_ bW from rfl];have hle:=lQ (p:=(inA · bW)) (src:=s.src) (k:=s.at_) (by omega);rw[show iI (inA · bW) s.src s.at_=bR s.src s.at_ bW from rfl]at hle;generalize bR s.src s.at_ bW=e at hle hR⊢;have e1:s.at_+(e-s.at_)=e:=by omega
       conv=>whnf
       rw[wrapN (n:=e) (by omega) (by omega)];refine⟨hle.1,hle.2,?_⟩;conv=>whnf
       refine(Mx F.Xc _).to ?_;rw[show(s.src.take ((e:Nat):Int).toNat).drop ((s.at_:Nat):Int).toNat=ku s.src s.at_ e from rfl];cases hw:qO (ku s.src s.at_ e)
       ·rw[if_neg (by simp[hw])]at hR
        subst hR;conv=>whnf
        refine(su F.KE s hs 1 (e-s.at_) (by omega)).to (Qs (.int _ _) (.int _ _)) bH [] (List.append_nil _).symm ?_;unfold Gz;rw[e1];conv=>whnf
        dsimp only;rw[List.append_nil s.diags];exact⟨_,[],rfl,Weak.refl _,(List.append_nil _).symm⟩
       ·rw[if_pos hw]at hR
        subst hR;conv=>whnf
        refine(su F.KE s hs 2 (e-s.at_) (by omega)).to (Qs (.int _ _) (.int _ _)) bH [] (List.append_nil _).symm ?_;unfold Gz;rw[e1];conv=>whnf
        dsimp only;rw[List.append_nil s.diags];exact⟨_,[],rfl,Weak.refl _,(List.append_nil _).symm⟩
     ·rw[if_pos h35]at hR
      subst hR;conv=>whnf
      refine(CX F.QN (Wv F.Xe) s hs.src s.at_ (by omega)).to (uh _ _) (.int _ _) [] (List.append_nil _).symm ?_;rw[show iI (fun c=> !inA c [10]) s.src s.at_=eZ s.src s.at_ [10]from rfl];have hle:=lQ (p:=fun c=> !inA c [10]) (src:=s.src) (k:=s.at_) (by omega);rw[show iI (fun c=> !inA c [10]) s.src s.at_=eZ s.src s.at_ [10]from rfl]at hle;generalize eZ s.src s.at_ [10]=e at hle⊢;conv=>whnf
      refine⟨⟨rfl,trivial⟩,?_⟩;conv=>whnf
      dsimp only;rw[wrapN (n:=e) (by omega) (by omega),List.append_nil s.toks,List.append_nil s.diags];exact⟨_,[],rfl,Weak.refl _,(List.append_nil _).symm⟩
    ·rw[h32,h9,h10,h13,Bool.false_or,Bool.false_or,Bool.false_or]at ws
     rw[if_pos ws]at hR;subst hR;conv=>whnf
     dsimp only;rw[wrapN (n:=s.at_+1) (by omega) (by omega),List.append_nil s.toks,List.append_nil s.diags];exact⟨_,[],rfl,Weak.refl _,(List.append_nil _).symm⟩
   ·rw[h32,h9,h10,Bool.false_or,Bool.false_or,Bool.true_or]at ws
    rw[if_pos ws]at hR;subst hR;conv=>whnf
    dsimp only;rw[wrapN (n:=s.at_+1) (by omega) (by omega),List.append_nil s.toks,List.append_nil s.diags];exact⟨_,[],rfl,Weak.refl _,(List.append_nil _).symm⟩
  ·rw[h32,h9,Bool.false_or,Bool.true_or]at ws
   rw[if_pos ws]at hR;subst hR;conv=>whnf
   dsimp only;rw[wrapN (n:=s.at_+1) (by omega) (by omega),List.append_nil s.toks,List.append_nil s.diags];exact⟨_,[],rfl,Weak.refl _,(List.append_nil _).symm⟩
 ·rw[h32,Bool.true_or]at ws
  rw[if_pos ws]at hR;subst hR;conv=>whnf
  dsimp only;rw[wrapN (n:=s.at_+1) (by omega) (by omega),List.append_nil s.toks,List.append_nil s.diags];exact⟨_,[],rfl,Weak.refl _,(List.append_nil _).symm⟩
end Go.Ag
/- Package cupelref05: what the reader reads of an expression, as plain functions. -/
namespace Go.Ag
open Go
def Ir :Bytes:=[102,117,110]
def uy :Bytes:=[108,101,116]
def kIf :Bytes:=[105,102]
def kEq :Bytes:=[61]
def kIn :Bytes:=[105,110]
def F5 :Bytes:=[116,104,101,110]
def kElse :Bytes:=[101,108,115,101]
def DK :Bytes:=[46]
def F4 :Bytes:=[116,114,117,101]
def Ah :Bytes:=[102,97,108,115,101]
def jd :Bytes:=[59]
def zeroE :EA:=.mk 0 0 [] 0 [] [] []
def jX (d:Nat) (s:RS):RS:=if 64<d then cZ s 3 else s
mutual
def bZ :Nat→Nat→RS→EA×RS
 |0,_,s=>(zeroE,s)
 |n+1,d,s=>
  if(jX d s).bad then(zeroE,jX d s)
  else if isR (jX d s) Ir then BO n d (jX d s).tok.at_ (aK (aD (aD (jX d s) Ir) kLp))
  else if isR (jX d s) uy then BM n d (jX d s).tok.at_ (aK (aD (jX d s) uy))
  else if isR (jX d s) kIf then ifR n d (jX d s).tok.at_ (aD (jX d s) kIf)
  else mg n d (fD n d (jX d s)).1 (fD n d (jX d s)).2
def BO :Nat→Nat→Int→dA×RS→EA×RS
 |0,_,_,p=>(zeroE,p.2)
 |n+1,d,at_,p=>
  if(aD p.2 aS).bad then(zeroE,aD p.2 aS)
  else if(aD (bM n (d+1) (aD p.2 aS)).2 kRp).bad then(zeroE,aD (bM n (d+1) (aD p.2 aS)).2 kRp)
  else(.mk 8 at_ p.1.text 0 [] [(bZ n (d+1) (aD (bM n (d+1) (aD p.2 aS)).2 kRp)).1] [(bM n (d+1) (aD p.2 aS)).1],
   (bZ n (d+1) (aD (bM n (d+1) (aD p.2 aS)).2 kRp)).2)
def BM : Nat → Nat → Int → dA × RS → EA × RS
 | 0, _, _, p => (zeroE, p.2)
 | n + 1, d, at_, p =>
  (.mk 9 at_ p.1.text 0 [] [(bZ n (d + 1) (aD p.2 kEq)).1, (bZ n (d + 1) (aD (bZ n (d + 1) (aD p.2 kEq)).2 kIn)).1] [],
   (bZ n (d + 1) (aD (bZ n (d + 1) (aD p.2 kEq)).2 kIn)).2)
def ifR :Nat→Nat→Int→RS→EA×RS
 |0,_,_,s=>(zeroE,s)
 |n+1,d,at_,s=>uH n d at_ (bZ n (d+1) s).1 (bZ n (d+1) (aD (bZ n (d+1) s).2 F5))
def uH :Nat→Nat→Int→EA→EA×RS→EA×RS
 |0,_,_,_,q=>(zeroE,q.2)
 |n+1,d,at_,a,q=>(.mk 10 at_ [] 0 [] [a,q.1,(bZ n (d+1) (aD q.2 kElse)).1] [],(bZ n (d+1) (aD q.2 kElse)).2)
def mg :Nat→Nat→EA→RS→EA×RS
 |0,_,x,s=>(x,s)
 |n+1,d,x,s=>
  if isR s kLp then mg n d (.mk 7 s.tok.at_ [] 0 [] [x,(bZ n (d+1) (aD s kLp)).1] []) (aD (bZ n (d+1) (aD s kLp)).2 kRp)
  else if isR s DK then mg n d (.mk 6 (aK (aD s DK)).1.at_ (aK (aD s DK)).1.text 0 [] [x] []) (aK (aD s DK)).2
  else(x,s)
def fD :Nat→Nat→RS→EA×RS
 |0,_,s=>(zeroE,s)
 |n+1,d,s=>
  if s.bad then(zeroE,s)
  else if s.tok.kind=1 then(.mk 4 s.tok.at_ s.tok.text 0 [] [] [],{s with i:=s.i+1})
  else if s.tok.kind=3 then(.mk 1 s.tok.at_ [] (tZ s.tok.text) [] [] [],{s with i:=s.i+1})
  else if s.tok.kind=4 then(.mk 2 s.tok.at_ s.tok.text 0 [] [] [],{s with i:=s.i+1})
  else if isR s F4 then(.mk 3 s.tok.at_ [] 1 [] [] [],aD s F4)
  else if isR s Ah then(.mk 3 s.tok.at_ [] 0 [] [] [],aD s Ah)
  else if isR s kLb then fB n d s.tok.at_ [] [] (aD s kLb)
  else if(aD s kLp).bad then(zeroE,aD s kLp)
  else asR n d s.tok.at_ (bZ n (d+1) (aD s kLp))
def asR :Nat→Nat→Int→EA×RS→EA×RS
 |0,_,_,q=>(zeroE,q.2)
 |n+1,d,at_,q=>
  if isR q.2 aS then(.mk 11 at_ [] 0 [] [q.1] [(bM n (d+1) (aD q.2 aS)).1],aD (bM n (d+1) (aD q.2 aS)).2 kRp)
  else(q.1,aD q.2 kRp)
def fB :Nat→Nat→Int→List Bytes→List EA→RS→EA×RS
 |0,_,_,_,_,s=>(zeroE,s)
 |n+1,d,at_,names,l,s=>
  if !s.bad&& !isR s kRb then
   if(aD (aK s).2 kEq).bad then(zeroE,aD (aK s).2 kEq)
   else if l7 names (aK s).1.text then
    fB n d at_ names l (fu (bZ n (d+1) (gu (aD (aK s).2 kEq) (aK s).1)).2)
   else
    fB n d at_ (names ++[(aK s).1.text]) (l ++[(bZ n (d+1) (aD (aK s).2 kEq)).1]) (fu (bZ n (d+1) (aD (aK s).2 kEq)).2)
  else(.mk 5 at_ [] 0 names l [],aD s kRb)
end
theorem OV {d:Nat} {s:RS} (hs:s.ok):s.le (jX d s):=by
 unfold jX;split
 ·exact kV hs 3
 ·exact RS.le.refl hs
structure LeEx (n:Nat):Prop where
 expr:∀(d:Nat) (s:RS),s.ok→s.le (bZ n d s).2
 fn:∀(d:Nat) (a:Int) (p:dA×RS),p.2.ok→p.2.le (BO n d a p).2
 lt:∀(d:Nat) (a:Int) (p:dA×RS),p.2.ok→p.2.le (BM n d a p).2
 ie:∀(d:Nat) (a:Int) (s:RS),s.ok→s.le (ifR n d a s).2
 el:∀(d:Nat) (a:Int) (x:EA) (q:EA×RS),q.2.ok→q.2.le (uH n d a x q).2
 post:∀(d:Nat) (x:EA) (s:RS),s.ok→s.le (mg n d x s).2
 basic:∀(d:Nat) (s:RS),s.ok→s.le (fD n d s).2
 as_:∀(d:Nat) (a:Int) (q:EA×RS),q.2.ok→q.2.le (asR n d a q).2
 fields:∀(d:Nat) (a:Int) (names:List Bytes) (l:List EA) (s:RS),s.ok→s.le (fB n d a names l s).2
theorem fT :∀n:Nat,LeEx n:=by
 intro n
 induction n with
 |zero=>exact⟨fun d s h=>by unfold bZ;exact RS.le.refl h,fun d a p h=>by unfold BO;exact RS.le.refl h,fun d a p h=>by unfold BM;exact RS.le.refl h,fun d a s h=>by unfold ifR;exact RS.le.refl h,fun d a x q h=>by unfold uH;exact RS.le.refl h,fun d x s h=>by unfold mg;exact RS.le.refl h,fun d s h=>by unfold fD;exact RS.le.refl h,fun d a q h=>by unfold asR;exact RS.le.refl h,fun d a ns l s h=>by unfold fB;exact RS.le.refl h⟩
 |succ n ih=>
  have ty:=fun(d:Nat) (s:RS) (h:s.ok)=>(bN n).1 d s h
  have tk:=fun(s:RS) (h:s.ok) (w:Bytes)=>aL h w
  have tt:∀{a b:RS} {f:RS→RS},a.ok→a.le b→(∀s:RS,s.ok→s.le (f s))→a.le (f b):=fun ha hab hf=>hab.trans (hf _ (ha.of hab))
  refine⟨fun d s h=>?_,fun d a p h=>?_,fun d a p h=>?_,fun d a s h=>?_,fun d a x q h=>?_,fun d x s h=>?_,fun d s h=>?_,fun d a q h=>?_,fun d a ns l s h=>?_⟩
  ·have hle:s.le (jX d s):=OV h
   unfold bZ;generalize jX d s=s1 at hle⊢;have ho:=h.of hle;have k1:=tk s1 ho Ir;have k2:=k1.trans (tk _ (ho.of k1) kLp);have k3:=k2.trans (bS (ho.of k2));have k4:=tk s1 ho uy;have k5:=k4.trans (bS (ho.of k4));have k6:=tk s1 ho kIf;split
   ·exact hle
   ·split
    ·exact hle.trans (k3.trans (ih.fn _ _ _ (ho.of k3)))
    ·split
     ·exact hle.trans (k5.trans (ih.lt _ _ _ (ho.of k5)))
     ·split
      ·exact hle.trans (k6.trans (ih.ie _ _ _ (ho.of k6)))
      ·exact hle.trans (tt (f:=fun s=>(mg n d (fD n d s1).1 s).2) ho (ih.basic d s1 ho) fun s h=>ih.post _ _ s h)
  ·unfold BO
   have k1:=tk p.2 h aS;have k2:=k1.trans (ty (d+1) _ (h.of k1));have k3:=k2.trans (tk _ (h.of k2) kRp);split
   ·exact k1
   ·split
    ·exact k3
    ·exact k3.trans (ih.expr _ _ (h.of k3))
  ·unfold BM
   have k1:=tk p.2 h kEq;have k2:=k1.trans (ih.expr (d+1) _ (h.of k1));have k3:=k2.trans (tk _ (h.of k2) kIn);exact k3.trans (ih.expr (d+1) _ (h.of k3))
  ·unfold ifR
   have k2:=ih.expr (d+1) s h;have k3:=k2.trans (tk _ (h.of k2) F5);have k4:=k3.trans (ih.expr (d+1) _ (h.of k3));exact k4.trans (ih.el _ _ _ _ (h.of k4))
  ·unfold uH
   have k1:=tk q.2 h kElse;exact k1.trans (ih.expr (d+1) _ (h.of k1))
  ·unfold mg
   have k1:=tk s h kLp;have k2:=k1.trans (ih.expr (d+1) _ (h.of k1));have k3:=k2.trans (tk _ (h.of k2) kRp);have k4:=tk s h DK;have k5:=k4.trans (bS (h.of k4));split
   ·exact k3.trans (ih.post _ _ _ (h.of k3))
   ·split
    ·exact k5.trans (ih.post _ _ _ (h.of k5))
    ·exact RS.le.refl h
  ·unfold fD
   have k1:=tk s h kLb;have k2:=tk s h kLp;have k3:=k2.trans (ih.expr (d+1) _ (h.of k2));split
   ·exact RS.le.refl h
   ·split
    ·exact mV h (by omega)
    ·split
     ·exact mV h (by omega)
     ·split
      ·exact mV h (by omega)
      ·split
       ·exact tk s h _
       ·split
        ·exact tk s h _
        ·split
         ·exact k1.trans (ih.fields _ _ _ _ _ (h.of k1))
         ·split
          ·exact k2
          ·exact k3.trans (ih.as_ _ _ _ (h.of k3))
  ·rw[asR]
   have k1:=tk q.2 h aS;have k2:=k1.trans (ty (d+1) _ (h.of k1));split
   ·exact k2.trans (tk _ (h.of k2) kRp)
   ·exact tk q.2 h kRp
  ·unfold fB
   split
   ·have k0:=(bS h).trans (tk _ (h.of (bS h)) kEq)
    split
    ·exact k0
    ·rename_i hb
     have hb:(aD (aK s).2 kEq).bad=false:=by simpa using hb
     split
     ·have k1:=lK h kEq hb
      have k2:=k1.trans (ih.expr (d+1) _ (h.of k1));have k3:=k2.trans (gU (h.of k2));exact k3.trans (ih.fields _ _ _ _ _ (h.of k3))
     ·have k2:=k0.trans (ih.expr (d+1) _ (h.of k0))
      have k3:=k2.trans (gU (h.of k2));exact k3.trans (ih.fields _ _ _ _ _ (h.of k3))
   ·exact tk s h _
end Go.Ag
/- Package cupelref05: basic, Expr. -/
namespace Go.Ag
open Go
variable {T : Tab} {L : Lnk}
structure Ja (T:Tab) (n:Nat):Prop where
 expr:∀(d:Nat) (s:RS),s.ok→d≤65→6*s.rem+8≤n→RC T.L 42 [.int .i64 d] s (bZ n d s).1.av (bZ n d s).2
 basic:∀(d:Nat) (s:RS),s.ok→d≤64→6*s.rem+7≤n→RC T.L 63 [.int .i64 d] s (fD n d s).1.av (fD n d s).2
theorem eU (k p:Int) (nm:Bytes) (m:Int) (ns:List Bytes) (l:List EA) (ts:List TA) (t1 t2 t3:Tok):
  Weak L (.agg [.int .i64 k,.int .i64 p,.str nm,.int .i64 m,.lst (aO ns) t1,.lst (EA.avs l) t2,.lst (TA.avs ts) t3]) (EA.mk k p nm m ns l ts).av:=by
 rw[EA.av];exact Weak.agg ⟨Weak.refl _,Weak.refl _,Weak.refl _,Weak.refl _,Weak.tok _ _,Weak.tok _ _,Weak.tok _ _,trivial⟩
theorem lW :Weak L (.agg [.int .i64 0,.int .i64 0,.str [],.int .i64 0,.lst [] .nil,.lst [] .nil,.lst [] .nil]) zeroE.av:=eU 0 0 [] 0 [] [] [] _ _ _
theorem VP {s:RS} (h:s.ok):s.tok.text.length≤2^40:=h.txt _ (List.mem_of_getElem? (uP h))
theorem NG (F:uF T) (n:Nat) (ih:∀m,m≤n→Ja T m) (d:Nat) (s:RS) (hs:s.ok) (hd:d≤64) (hf:6*s.rem+7≤n+1):RC T.L 63 [.int .i64 d] s (fD (n+1) d s).1.av (fD (n+1) d s).2:=by
 refine RC.of 2 (iN _ _) (aG F.h63 (by simp[ZE]) ?_);obtain⟨R,hR⟩:∃R,fD (n+1) d s=R:=⟨_,rfl⟩;rw[hR];rw[fD]at hR;conv=>whnf
 cases hb:s.bad
 ·rw[if_neg (by simp[hb])]at hR
  conv=>whnf
  refine jM hs ?_;conv=>whnf
  cases hk1:(s.tok.kind==1)
  ·rw[if_neg (by simpa using hk1)]at hR
   conv=>whnf
   cases hk3:(s.tok.kind==3)
   ·rw[if_neg (by simpa using hk3)]at hR
    conv=>whnf
    cases hk4:(s.tok.kind==4)
    ·rw[if_neg (by simpa using hk4)]at hR
     conv=>whnf
     refine F.is hs F4 _ rfl ?_;cases h0:isR s F4
     ·rw[if_neg (by simp[h0])]at hR
      conv=>whnf
      refine F.is hs Ah _ rfl ?_;cases h1:isR s Ah
      ·rw[if_neg (by simp[h1])]at hR
       conv=>whnf
       refine F.is hs kLb _ rfl ?_;cases h2:isR s kLb
       ·rw[if_neg (by simp[h2])]at hR
        conv=>whnf
        refine F.take hs kLp _ rfl ?_;have k1:=aL hs kLp;have hs1:=hs.of k1;have hr:(aD s kLp).bad=false→(aD s kLp).rem+1=s.rem:=fun h=>eO hs (ji h).2.1
        generalize aD s kLp=s1 at k1 hs1 hr hR⊢;conv=>whnf
        cases hb1:s1.bad
        ·rw[if_neg (by simp[hb1])]at hR
         have hr:=hr hb1;conv=>whnf
         rw[addN (by omega)];have hq:=(ih n (Nat.le_refl _)).expr (d+1) s1 hs1 (by omega) (by omega);have hle:=(fT n).expr (d+1) s1 hs1;have hre:=hle.rem;obtain⟨q,hqe⟩:∃q,bZ n (d+1) s1=q:=⟨_,rfl⟩;rw[hqe]at hq hle hR hre;obtain⟨m,rfl⟩:∃m,n=m+1:=⟨n-1,by omega⟩;rw[asR]at hR;obtain⟨⟨k',p',nm',m',ns',l',ts'⟩,s2⟩:=q;dsimp only at hq hle hR hre;refine hq.to (dD (.int _ _)) (iN _ _) _ rfl ?_;have hs2:=hs1.of hle;conv=>whnf
         refine F.is hs2 aS _ rfl ?_;cases h3:isR s2 aS
         ·rw[if_neg (by simp[h3])]at hR
          subst hR;conv=>whnf
          refine F.take hs2 kRp _ rfl ?_;conv=>whnf
          exact⟨_,rfl,eU _ _ _ _ _ _ _ _ _ _,rfl⟩
         ·rw[if_pos h3]at hR
          conv=>whnf
          refine F.take hs2 aS _ rfl ?_;have k3:=aL hs2 aS;have hs3:=hs2.of k3;have hr3:=k3.rem;generalize aD s2 aS=s3 at k3 hs3 hR hr3⊢;conv=>whnf
          rw[addN (by omega)];have hq:=(CF F m).type (d+1) s3 hs3 (by omega) (by omega);have hle:=(bN m).1 (d+1) s3 hs3;obtain⟨q,hqe⟩:∃q,bM m (d+1) s3=q:=⟨_,rfl⟩;rw[hqe]at hq hle hR;obtain⟨⟨k4,nm4,ns4,l4⟩,s4⟩:=q;dsimp only at hq hle hR;subst hR;refine hq.to (dD (.int _ _)) (aQ _ _) _ rfl ?_;conv=>whnf
          refine F.take (hs3.of hle) kRp _ rfl ?_;conv=>whnf
          exact⟨_,rfl,eU 11 s.tok.at_ [] 0 [] [.mk k' p' nm' m' ns' l' ts'] [.mk k4 nm4 ns4 l4] _ _ _,rfl⟩
        ·rw[if_pos hb1]at hR
         subst hR;conv=>whnf
         exact⟨_,rfl,lW,rfl⟩
       ·rw[if_pos h2]at hR
        conv=>whnf
        refine F.take hs kLb _ rfl ?_;have k1:=aL hs kLb;have hs1:=hs.of k1;have hr:=eO hs h2;generalize aD s kLb=s1 at k1 hs1 hr hR⊢;conv=>whnf
        intro I hI hG
        have key:∀(m:Nat) (s':RS) (names:List Bytes) (l:List EA) (XS YS:List au) (e:Env),m≤n→s'.ok→6*s'.rem+8≤m→l.length=names.length→names.length+s'.rem≤2^34→R=fB m d s.tok.at_ names l s'→XS=aO names→YS=EA.avs l→
          I (gB e [(0,.ptr 1 0),(1,.int .i64 d),(4,.ptr 4 0),(8,.ptr 6 0)]) [gI s',j6 s',bC XS.length 10,bC YS.length 70,.cells [.int .i64 0,.int .i64 0,.str [],.int .i64 0,.lst [] .nil,.lst [] .nil,.lst [] .nil] 70,
           .cells [.int .i64 s.tok.kind,.int .i64 s.tok.at_,.str s.tok.text] 86,.cells [.int .i64 5,.int .i64 s.tok.at_,.str [],.int .i64 0,.lst XS (bK XS.length 2),.lst YS (bK YS.length 3),.lst [] .nil] 70]:=by
         intro m
         induction m with
         |zero=>intro s' names l XS YS e _ _ h;omega
         |succ m ihm=>
          intro s' names l XS YS e hm hs' hf' hl1 hl2 hv hX hY;rw[fB]at hv
          have next:∀(s2:RS) (names2:List Bytes) (l2:List EA) (XS YS:List au) (e2:Env) (H2:Heap),s2.ok→6*s2.rem+8≤m→l2.length=names2.length→names2.length+s2.rem≤2^34→R=fB m d s.tok.at_ names2 l2 s2→XS=aO names2→YS=EA.avs l2→
            H2.take 7=[gI s2,j6 s2,bC XS.length 10,bC YS.length 70,.cells [.int .i64 0,.int .i64 0,.str [],.int .i64 0,.lst [] .nil,.lst [] .nil,.lst [] .nil] 70,
             .cells [.int .i64 s.tok.kind,.int .i64 s.tok.at_,.str s.tok.text] 86,.cells [.int .i64 5,.int .i64 s.tok.at_,.str [],.int .i64 0,.lst XS (bK XS.length 2),.lst YS (bK YS.length 3),.lst [] .nil] 70]→
            fC e2 [(0,.ptr 1 0),(1,.int .i64 d),(4,.ptr 4 0),(8,.ptr 6 0)]→I e2 H2:=fun s2 names2 l2 XS YS e2 H2 c1 c2 c3 c4 c5 c6 c7 c8 c9=>
           hG.keep [(0,.ptr 1 0),(1,.int .i64 d),(4,.ptr 4 0),(8,.ptr 6 0)] [gI s2,j6 s2,bC XS.length 10,bC YS.length 70,.cells [.int .i64 0,.int .i64 0,.str [],.int .i64 0,.lst [] .nil,.lst [] .nil,.lst [] .nil] 70,
             .cells [.int .i64 s.tok.kind,.int .i64 s.tok.at_,.str s.tok.text] 86,.cells [.int .i64 5,.int .i64 s.tok.at_,.str [],.int .i64 0,.lst XS (bK XS.length 2),.lst YS (bK YS.length 3),.lst [] .nil] 70] (Nat.le_refl 7) c8 c9
            ⟨.ptr _ _ (by decide:1<7),.int _ _,.ptr _ _ (by decide:4<7),.ptr _ _ (by decide:6<7),trivial⟩
            ⟨bG _ _ _,nH (n:=7) (by decide) _,bG _ _ _,bG _ _ _,dH ⟨.int _ _,.int _ _,.str _,.int _ _,.lst _ _ trivial fK,.lst _ _ trivial fK,.lst _ _ trivial fK,trivial⟩,dH ⟨.int _ _,.int _ _,.str _,trivial⟩,
             dH ⟨.int _ _,.int _ _,.str _,.int _ _,by rw[c6];exact dQ _ _ _ (dO (by decide:2<7)),.lst _ _ (dO (by decide:3<7)) (by rw[c7];exact wD _ _),.lst _ _ trivial fK,trivial⟩,trivial⟩
            (ihm s2 names2 l2 XS YS _ (by omega) c1 c2 c3 c4 c5 c6 c7)
          apply hI;conv=>whnf
          cases hb':s'.bad
          ·conv=>whnf
           refine F.is hs' kRb _ rfl ?_;cases hi':isR s' kRb
           ·rw[if_pos (by simp[hb',hi'])]at hv
            conv=>whnf
            refine F.name hs' _ rfl ?_;have n1:=bS hs';have n3:=lK hs' kEq;obtain⟨p,hp⟩:∃p,aK s'=p:=⟨_,rfl⟩;rw[hp]at hv n1 n3⊢;have hs2:=hs'.of n1;conv=>whnf
            refine F.take hs2 kEq _ rfl ?_;have n4:=aL hs2 kEq;obtain⟨s3,Nb⟩:∃s3,aD p.2 kEq=s3:=⟨_,rfl⟩;rw[Nb]at hv n3 n4⊢;have hs3:=hs2.of n4;conv=>whnf
            cases hb3:s3.bad
            ·rw[if_neg (by simp[hb3])]at hv
             have hr3:s3.rem+2=s'.rem:=by
              rw[←Nb,←hp];exact tC hs' kEq (by rw[hp,Nb];exact hb3)
             have hle3:=n3 hb3;have hX1:XS.length=names.length:=by rw[hX,fQ]
             have hY1:YS.length=names.length:=by rw[hY,OQ,hl1]
             have sX:dB 1 XS:=by rw[hX];exact iY _
             have sY:dB 7 YS:=by rw[hY];exact zS _
             conv=>whnf
             refine((KA F.h85 names p.1.text (by omega) .none trivial).weak (args:=[.lst XS (bK XS.length 2),.str p.1.text]) ⟨by rw[hX];exact Weak.tok _ _,Weak.refl _,trivial⟩).to ?_;cases ht:l7 names p.1.text
             case' true=>
              rw[if_pos ht]at hv;conv=>whnf
              refine zD hs3 ⟨p.1.at_,4,p.1.text⟩ rfl rfl ?_;conv=>whnf
              rw[addN (by omega)];have hs4:=hs'.of hle3;have hq:=(ih m (by omega)).expr (d+1) (gu s3 p.1) hs4 (by omega) (by show 6*s3.rem+8≤m;omega);have qM:=(fT m).expr (d+1) (gu s3 p.1) hs4;have DX:=qM.rem;have hre5:(gu s3 p.1).rem=s3.rem:=rfl;obtain⟨q,hqe⟩:∃q,bZ m (d+1) (gu s3 p.1)=q:=⟨_,rfl⟩;rw[hqe]at hv hq qM DX;obtain⟨⟨k',p',nm',m',ns',l',ts'⟩,s5⟩:=q;dsimp only at hv hq qM DX;refine hq.to (dD (.int _ _)) (iN _ _) _ rfl ?_;have hs5:=hs4.of qM;have hv2:R=fB m d s.tok.at_ names l (fu s5):=hv;have hl3:l.length=names.length:=hl1;have hl4:names.length≤names.length+1:=by omega
              have hX2:XS=aO names:=hX;have hY2:YS=EA.avs l:=hY;conv=>whnf
             case' false=>
              rw[if_neg (by simp[ht])]at hv;conv=>whnf
              rw[addN (by omega)];have hq:=(ih m (by omega)).expr (d+1) s3 hs3 (by omega) (by omega);have qM:=(fT m).expr (d+1) s3 hs3;have DX:=qM.rem;obtain⟨q,hqe⟩:∃q,bZ m (d+1) s3=q:=⟨_,rfl⟩;rw[hqe]at hv hq qM DX;obtain⟨⟨k',p',nm',m',ns',l',ts'⟩,s5⟩:=q;dsimp only at hv hq qM DX;refine hq.to (dD (.int _ _)) (iN _ _) _ rfl ?_;have hs5:=hs3.of qM;conv=>whnf
              refine dS (id:=2) sX (bP rfl) (by rw[hX1];simp;omega) (by rw[hX1];simp;omega) (by simp) rfl ?_;conv=>whnf
              refine dS (id:=3) sY (bP rfl) (by rw[hY1];simp;omega) (by rw[hY1];simp;omega) (by simp) rfl ?_;have hv2:R=fB m d s.tok.at_ (names ++[p.1.text]) (l ++[.mk k' p' nm' m' ns' l' ts']) (fu s5):=hv;have hl3:(l ++[EA.mk k' p' nm' m' ns' l' ts']).length=(names ++[p.1.text]).length:=by simp[hl1]
              have hl4:(names ++[p.1.text]).length≤names.length+1:=by simp
              have hX2:XS ++[.str p.1.text]=aO (names ++[p.1.text]):=by rw[hX];simp[aO]
              have hY2:YS ++[.agg [.int .i64 k',.int .i64 p',.str nm',.int .i64 m',.lst (aO ns') .none,.lst (EA.avs l') .none,.lst (TA.avs ts') .none]]=EA.avs (l ++[.mk k' p' nm' m' ns' l' ts']):=by rw[hY,Eh];rfl
              conv=>whnf
             all_goals
              refine F.is hs5 kRb _ rfl ?_;have hc:=Gq s5;cases hi5:isR s5 kRb
              ·rw[hi5,if_neg (by simp)]at hc
               conv=>whnf
               refine F.take hs5 gX _ rfl ?_;have n6:=aL hs5 gX;have hr6:=n6.rem;generalize aD s5 gX=s6 at n6 hc hr6⊢;have hs6:=hs5.of n6;conv=>whnf
               refine F.is hs6 kRb _ rfl ?_;cases hi6:isR s6 kRb
               ·rw[hi6,if_neg (by simp)]at hc
                rw[hc]at hv2;conv=>whnf
                exact next s6 _ _ _ _ _ _ hs6 (by omega) hl3 (by omega) hv2 hX2 hY2 rfl ⟨rfl,rfl,rfl,rfl,trivial⟩
               ·rw[hi6,if_pos rfl]at hc
                rw[hc]at hv2;conv=>whnf
                refine F.give hs6 2 _ rfl ?_;conv=>whnf
                have hr7:=(kV hs6 2).rem;exact next (cZ s6 2) _ _ _ _ _ _ (hs6.of (kV hs6 2)) (by omega) hl3 (by omega) hv2 hX2 hY2 rfl ⟨rfl,rfl,rfl,rfl,trivial⟩
              ·rw[hi5,if_pos rfl]at hc
               rw[hc]at hv2;conv=>whnf
               exact next s5 _ _ _ _ _ _ hs5 (by omega) hl3 (by omega) hv2 hX2 hY2 rfl ⟨rfl,rfl,rfl,rfl,trivial⟩
            ·rw[if_pos hb3]at hv
             subst hv;conv=>whnf
             exact⟨_,rfl,lW,rfl⟩
           ·rw[if_neg (by simp[hi'])]at hv
            subst hv;conv=>whnf
            refine F.take hs' kRb _ rfl ?_;conv=>whnf
            subst hX hY;exact⟨_,rfl,eU 5 _ [] 0 names l [] _ _ _,rfl⟩
          ·rw[if_neg (by simp[hb'])]at hv
           subst hv;conv=>whnf
           refine F.take hs' kRb _ rfl ?_;conv=>whnf
           subst hX hY;exact⟨_,rfl,eU 5 _ [] 0 names l [] _ _ _,rfl⟩
        refine inv_of [(0,.ptr 1 0),(1,.int .i64 d),(4,.ptr 4 0),(8,.ptr 6 0)] ⟨rfl,rfl,rfl,rfl,trivial⟩ (key n s1 [] [] [] [] _ (Nat.le_refl _) hs1 (by omega) rfl ?_ hR.symm rfl rfl);have:=hs.len;unfold RS.rem at*;simp;omega
      ·rw[if_pos h1]at hR
       subst hR;conv=>whnf
       refine F.take hs Ah _ rfl ?_;conv=>whnf
       exact⟨_,rfl,eU 3 _ [] 0 [] [] [] _ _ _,rfl⟩
     ·rw[if_pos h0]at hR
      subst hR;conv=>whnf
      refine F.take hs F4 _ rfl ?_;conv=>whnf
      exact⟨_,rfl,eU 3 _ [] 1 [] [] [] _ _ _,rfl⟩
    ·rw[if_pos (by simpa using hk4)]at hR
     subst hR;conv=>whnf
     rw[addN hs.i];exact⟨_,rfl,eU 2 _ _ 0 [] [] [] _ _ _,rfl⟩
   ·rw[if_pos (by simpa using hk3)]at hR
    subst hR;conv=>whnf
    refine(J8 F.h84 s.tok.text (by have:=VP hs;omega)).to ?_;conv=>whnf
    refine⟨⟨rfl,trivial⟩,?_⟩;conv=>whnf
    rw[addN hs.i];exact⟨_,rfl,eU 1 _ [] _ [] [] [] _ _ _,rfl⟩
  ·rw[if_pos (by simpa using hk1)]at hR
   subst hR;conv=>whnf
   rw[addN hs.i];exact⟨_,rfl,eU 4 _ _ 0 [] [] [] _ _ _,rfl⟩
 ·rw[if_pos hb]at hR
  subst hR;conv=>whnf
  exact⟨_,rfl,lW,rfl⟩
theorem Rf (F:uF T) (n:Nat) (ih:∀m,m≤n→Ja T m) (d:Nat) (s:RS) (hs:s.ok) (hd:d≤65) (hf:6*s.rem+8≤n+1):RC T.L 42 [.int .i64 d] s (bZ (n+1) d s).1.av (bZ (n+1) d s).2:=by
 refine RC.of 0 (iN _ _) (aG F.h42 (by simp[ZI]) ?_);obtain⟨R,hR⟩:∃R,bZ (n+1) d s=R:=⟨_,rfl⟩;rw[hR];rw[bZ]at hR;conv=>whnf
 cases hdd:decide ((d:Int)>64)
 ·have Al:¬64<d:=by simp at hdd;omega
  rw[show jX d s=s from if_neg Al]at hR;conv=>whnf
  cases hb:s.bad
  ·rw[if_neg (by simp[hb])]at hR
   conv=>whnf
   refine jM hs ?_;conv=>whnf
   refine⟨by simp[au.cells],?_⟩;conv=>whnf
   obtain⟨m,rfl⟩:∃m,n=m+1:=⟨n-1,by omega⟩;refine F.is hs Ir _ rfl ?_;cases h0:isR s Ir
   ·rw[if_neg (by simp[h0])]at hR
    conv=>whnf
    refine F.is hs uy _ rfl ?_;cases h1:isR s uy
    ·rw[if_neg (by simp[h1])]at hR
     conv=>whnf
     refine F.is hs kIf _ rfl ?_;cases h2:isR s kIf
     ·rw[if_neg (by simp[h2])]at hR
      conv=>whnf
      have hq:=(ih (m+1) (Nat.le_refl _)).basic d s hs (by omega) (by omega);have hle:=(fT (m+1)).basic d s hs;have hre:=hle.rem;obtain⟨q,hqe⟩:∃q,fD (m+1) d s=q:=⟨_,rfl⟩;rw[hqe]at hq hle hR hre;obtain⟨⟨a1,a2,a3,a4,a5,a6,a7⟩,s1⟩:=q;dsimp only at hq hle hR hre;refine hq.to (dD (.int _ _)) (iN _ _) _ rfl ?_;have hs1:=hs.of hle;conv=>whnf
      intro I hI hG
      have key:∀(mm:Nat) (s':RS) (k p:Int) (nm:Bytes) (v:Int) (ns:List Bytes) (l:List EA) (ts:List TA) (e:Env),mm≤m+1→s'.ok→6*s'.rem+7≤mm→R=mg mm d (.mk k p nm v ns l ts) s'→
        I (gB e [(0,.ptr 1 0),(1,.int .i64 d),(4,.ptr 2 0),(14,.ptr 3 0)]) [gI s',j6 s',.cells [.int .i64 0,.int .i64 0,.str [],.int .i64 0,.lst [] .nil,.lst [] .nil,.lst [] .nil] 70,
         .cells [.int .i64 k,.int .i64 p,.str nm,.int .i64 v,.lst (aO ns) .none,.lst (EA.avs l) .none,.lst (TA.avs ts) .none] 70]:=by
       intro mm
       induction mm with
       |zero=>intro s' k p nm v ns l ts e _ _ h;omega
       |succ mm ihm=>
        intro s' k p nm v ns l ts e hm hs' hf' hv;rw[mg]at hv
        have next:∀(s2:RS) (k p:Int) (nm:Bytes) (v:Int) (ns:List Bytes) (l:List EA) (ts:List TA) (t1 t2 t3:Tok) (e2:Env) (H2:Heap),s2.ok→6*s2.rem+7≤mm→R=mg mm d (.mk k p nm v ns l ts) s2→
          H2.take 4=[gI s2,j6 s2,.cells [.int .i64 0,.int .i64 0,.str [],.int .i64 0,.lst [] .nil,.lst [] .nil,.lst [] .nil] 70,
           .cells [.int .i64 k,.int .i64 p,.str nm,.int .i64 v,.lst (aO ns) t1,.lst (EA.avs l) t2,.lst (TA.avs ts) t3] 70]→
          fC e2 [(0,.ptr 1 0),(1,.int .i64 d),(4,.ptr 2 0),(14,.ptr 3 0)]→I e2 H2:=fun s2 k p nm v ns l ts t1 t2 t3 e2 H2 c1 c2 c3 c4 c5=>
         hG.Ka [(0,.ptr 1 0),(1,.int .i64 d),(4,.ptr 2 0),(14,.ptr 3 0)] [gI s2,j6 s2,.cells [.int .i64 0,.int .i64 0,.str [],.int .i64 0,.lst [] .nil,.lst [] .nil,.lst [] .nil] 70,
           .cells [.int .i64 k,.int .i64 p,.str nm,.int .i64 v,.lst (aO ns) .none,.lst (EA.avs l) .none,.lst (TA.avs ts) .none] 70]
          [gI s2,j6 s2,.cells [.int .i64 0,.int .i64 0,.str [],.int .i64 0,.lst [] .nil,.lst [] .nil,.lst [] .nil] 70,
           .cells [.int .i64 k,.int .i64 p,.str nm,.int .i64 v,.lst (aO ns) t1,.lst (EA.avs l) t2,.lst (TA.avs ts) t3] 70] (H2.drop 4) (by conv=>lhs;rw[←List.take_append_drop 4 H2,c4]) (Nat.le_refl 4)
          ⟨bJ.refl _,bJ.refl _,bJ.refl _,⟨rfl,Weak.refl _,Weak.refl _,Weak.refl _,Weak.refl _,Weak.tok _ _,Weak.tok _ _,Weak.tok _ _,trivial⟩,trivial⟩
          (uT c5 ⟨.ptr _ _ (by decide:1<4),.int _ _,.ptr _ _ (by decide:2<4),.ptr _ _ (by decide:3<4),trivial⟩)
          ⟨bG _ _ _,nH (n:=4) (by decide) _,dH ⟨.int _ _,.int _ _,.str _,.int _ _,.lst _ _ trivial fK,.lst _ _ trivial fK,.lst _ _ trivial fK,trivial⟩,
           dH ⟨.int _ _,.int _ _,.str _,.int _ _,dQ _ _ _ trivial,.lst _ _ trivial (wD _ _),.lst _ _ trivial (aY _ _),trivial⟩,trivial⟩
          (ihm s2 k p nm v ns l ts _ (by omega) c1 c2 c3)
        apply hI;conv=>whnf
        refine F.is hs' kLp _ rfl ?_;cases h3:isR s' kLp
        ·rw[if_neg (by simp[h3])]at hv
         conv=>whnf
         refine F.is hs' DK _ rfl ?_;cases h4:isR s' DK
         ·rw[if_neg (by simp[h4])]at hv
          subst hv;conv=>whnf
          exact⟨_,rfl,eU _ _ _ _ _ _ _ _ _ _,rfl⟩
         ·rw[if_pos h4]at hv
          conv=>whnf
          refine jM hs' ?_;conv=>whnf
          refine⟨by simp[au.cells],?_⟩;conv=>whnf
          refine F.is hs' kLp _ rfl ?_;rw[h3];conv=>whnf
          refine F.take hs' DK _ rfl ?_;have k1:=aL hs' DK;have hr:=eO hs' h4;generalize aD s' DK=s2 at k1 hr hv⊢;have hs2:=hs'.of k1;conv=>whnf
          refine F.name hs2 _ rfl ?_;have n1:=bS hs2;have hrn:=n1.rem;obtain⟨p',hp⟩:∃p,aK s2=p:=⟨_,rfl⟩;rw[hp]at hv n1 hrn⊢;have hs3:=hs2.of n1;conv=>whnf
          exact next p'.2 _ _ _ _ [] [.mk k p nm v ns l ts] [] _ _ _ _ _ hs3 (by omega) hv rfl ⟨rfl,rfl,rfl,rfl,trivial⟩
        ·rw[if_pos h3]at hv
         conv=>whnf
         refine jM hs' ?_;conv=>whnf
         refine⟨by simp[au.cells],?_⟩;conv=>whnf
         refine F.is hs' kLp _ rfl ?_;rw[h3];conv=>whnf
         refine F.take hs' kLp _ rfl ?_;have k1:=aL hs' kLp;have hr:=eO hs' h3;generalize aD s' kLp=s2 at k1 hr hv⊢;have hs2:=hs'.of k1;conv=>whnf
         rw[addN (by omega)];have hq:=(ih mm (by omega)).expr (d+1) s2 hs2 (by omega) (by omega);have hle:=(fT mm).expr (d+1) s2 hs2;have hre:=hle.rem;obtain⟨q,hqe⟩:∃q,bZ mm (d+1) s2=q:=⟨_,rfl⟩;rw[hqe]at hq hle hv hre;obtain⟨⟨c1,c2,c3,c4,c5,c6,c7⟩,s3⟩:=q;dsimp only at hq hle hv hre;refine hq.to (dD (.int _ _)) (iN _ _) _ rfl ?_;have hs3:=hs2.of hle;conv=>whnf
         refine F.take hs3 kRp _ rfl ?_;have k5:=aL hs3 kRp;have hr5:=k5.rem;generalize aD s3 kRp=s5 at k5 hv hr5⊢;conv=>whnf
         exact next s5 _ _ [] 0 [] [.mk k p nm v ns l ts,.mk c1 c2 c3 c4 c5 c6 c7] [] _ _ _ _ _ (hs3.of k5) (by omega) hv rfl ⟨rfl,rfl,rfl,rfl,trivial⟩
      exact inv_of [(0,.ptr 1 0),(1,.int .i64 d),(4,.ptr 2 0),(14,.ptr 3 0)] ⟨rfl,rfl,rfl,rfl,trivial⟩ (key (m+1) s1 _ _ _ _ _ _ _ _ (Nat.le_refl _) hs1 (by omega) hR.symm)
     ·rw[if_pos h2,ifR]at hR
      conv=>whnf
      refine F.take hs kIf _ rfl ?_;have k1:=aL hs kIf;have hr:=eO hs h2;generalize aD s kIf=s1 at k1 hr hR⊢;have hs1:=hs.of k1;conv=>whnf
      rw[addN (by omega)];have hq:=(ih m (by omega)).expr (d+1) s1 hs1 (by omega) (by omega);have hle:=(fT m).expr (d+1) s1 hs1;have hre:=hle.rem;obtain⟨q,hqe⟩:∃q,bZ m (d+1) s1=q:=⟨_,rfl⟩;rw[hqe]at hq hle hR hre;obtain⟨⟨a1,a2,a3,a4,a5,a6,a7⟩,s2⟩:=q;dsimp only at hq hle hR hre;refine hq.to (dD (.int _ _)) (iN _ _) _ rfl ?_;have hs2:=hs1.of hle;conv=>whnf
      refine F.take hs2 F5 _ rfl ?_;have k3:=aL hs2 F5;have hr3:=k3.rem;generalize aD s2 F5=s3 at k3 hR hr3⊢;have hs3:=hs2.of k3;conv=>whnf
      rw[addN (by omega)];have hq:=(ih m (by omega)).expr (d+1) s3 hs3 (by omega) (by omega);have hle:=(fT m).expr (d+1) s3 hs3;have hre3:=hle.rem;obtain⟨q,hqe⟩:∃q,bZ m (d+1) s3=q:=⟨_,rfl⟩;rw[hqe]at hq hle hR hre3;obtain⟨m',rfl⟩:∃m',m=m'+1:=⟨m-1,by omega⟩;rw[uH]at hR;obtain⟨⟨b1,b2,b3,b4,b5,b6,b7⟩,s4⟩:=q;dsimp only at hq hle hR hre3;refine hq.to (dD (.int _ _)) (iN _ _) _ rfl ?_;have hs4:=hs3.of hle;conv=>whnf
      refine F.take hs4 kElse _ rfl ?_;have k5:=aL hs4 kElse;have hr5:=k5.rem;generalize aD s4 kElse=s5 at k5 hR hr5⊢;have hs5:=hs4.of k5;conv=>whnf
      rw[addN (by omega)];have hq:=(ih m' (by omega)).expr (d+1) s5 hs5 (by omega) (by omega);obtain⟨q,hqe⟩:∃q,bZ m' (d+1) s5=q:=⟨_,rfl⟩;rw[hqe]at hq hR;obtain⟨⟨c1,c2,c3,c4,c5,c6,c7⟩,s6⟩:=q;dsimp only at hq hR;subst hR;refine hq.to (dD (.int _ _)) (iN _ _) _ rfl ?_;conv=>whnf
      exact⟨_,rfl,eU 10 s.tok.at_ [] 0 [] [.mk a1 a2 a3 a4 a5 a6 a7,.mk b1 b2 b3 b4 b5 b6 b7,.mk c1 c2 c3 c4 c5 c6 c7] [] _ _ _,rfl⟩
    ·rw[if_pos h1,BM]at hR
     conv=>whnf
     refine F.take hs uy _ rfl ?_;have k1:=aL hs uy;have hr:=eO hs h1;generalize aD s uy=s1 at k1 hr hR⊢;have hs1:=hs.of k1;conv=>whnf
     refine F.name hs1 _ rfl ?_;have n1:=bS hs1;have hrn:=n1.rem;obtain⟨p,hp⟩:∃p,aK s1=p:=⟨_,rfl⟩;rw[hp]at hR n1 hrn⊢;have hs2:=hs1.of n1;conv=>whnf
     refine F.take hs2 kEq _ rfl ?_;have k3:=aL hs2 kEq;have hr3:=k3.rem;generalize aD p.2 kEq=s3 at k3 hR hr3⊢;have hs3:=hs2.of k3;conv=>whnf
     rw[addN (by omega)];have hq:=(ih m (by omega)).expr (d+1) s3 hs3 (by omega) (by omega);have hle:=(fT m).expr (d+1) s3 hs3;have hre:=hle.rem;obtain⟨q,hqe⟩:∃q,bZ m (d+1) s3=q:=⟨_,rfl⟩;rw[hqe]at hq hle hR hre;obtain⟨⟨a1,a2,a3,a4,a5,a6,a7⟩,s4⟩:=q;dsimp only at hq hle hR hre;refine hq.to (dD (.int _ _)) (iN _ _) _ rfl ?_;have hs4:=hs3.of hle;conv=>whnf
     refine F.take hs4 kIn _ rfl ?_;have k5:=aL hs4 kIn;have hr5:=k5.rem;generalize aD s4 kIn=s5 at k5 hR hr5⊢;have hs5:=hs4.of k5;conv=>whnf
     rw[addN (by omega)];have hq:=(ih m (by omega)).expr (d+1) s5 hs5 (by omega) (by omega);obtain⟨q,hqe⟩:∃q,bZ m (d+1) s5=q:=⟨_,rfl⟩;rw[hqe]at hq hR;obtain⟨⟨c1,c2,c3,c4,c5,c6,c7⟩,s6⟩:=q;dsimp only at hq hR;subst hR;refine hq.to (dD (.int _ _)) (iN _ _) _ rfl ?_;conv=>whnf
     exact⟨_,rfl,eU 9 s.tok.at_ p.1.text 0 [] [.mk a1 a2 a3 a4 a5 a6 a7,.mk c1 c2 c3 c4 c5 c6 c7] [] _ _ _,rfl⟩
   ·rw[if_pos h0,BO]at hR
    conv=>whnf
    refine F.take hs Ir _ rfl ?_;have k0:=aL hs Ir;have hr0:=eO hs h0;generalize aD s Ir=s0 at k0 hr0 hR⊢;have hs0:=hs.of k0;conv=>whnf
    refine F.take hs0 kLp _ rfl ?_;have k1:=aL hs0 kLp;have hr:=k1.rem;generalize aD s0 kLp=s1 at k1 hr hR⊢;have hs1:=hs0.of k1;conv=>whnf
    refine F.name hs1 _ rfl ?_;have n1:=bS hs1;have hrn:=n1.rem;obtain⟨p,hp⟩:∃p,aK s1=p:=⟨_,rfl⟩;rw[hp]at hR n1 hrn⊢;have hs2:=hs1.of n1;conv=>whnf
    refine F.take hs2 aS _ rfl ?_;have k3:=aL hs2 aS;have hr3:=k3.rem;generalize aD p.2 aS=s3 at k3 hR hr3⊢;have hs3:=hs2.of k3;conv=>whnf
    cases hb3:s3.bad
    ·rw[if_neg (by simp[hb3])]at hR
     conv=>whnf
     rw[addN (by omega)];have hq:=(CF F m).type (d+1) s3 hs3 (by omega) (by omega);have hle:=(bN m).1 (d+1) s3 hs3;have hre:=hle.rem;obtain⟨q,hqe⟩:∃q,bM m (d+1) s3=q:=⟨_,rfl⟩;rw[hqe]at hq hle hR hre;obtain⟨⟨a1,a2,a3,a4⟩,s4⟩:=q;dsimp only at hq hle hR hre;refine hq.to (dD (.int _ _)) (aQ _ _) _ rfl ?_;have hs4:=hs3.of hle;conv=>whnf
     refine F.take hs4 kRp _ rfl ?_;have k5:=aL hs4 kRp;have hr5:=k5.rem;generalize aD s4 kRp=s5 at k5 hR hr5⊢;have hs5:=hs4.of k5;conv=>whnf
     cases hb5:s5.bad
     ·rw[if_neg (by simp[hb5])]at hR
      conv=>whnf
      rw[addN (by omega)];have hq:=(ih m (by omega)).expr (d+1) s5 hs5 (by omega) (by omega);obtain⟨q,hqe⟩:∃q,bZ m (d+1) s5=q:=⟨_,rfl⟩;rw[hqe]at hq hR;obtain⟨⟨c1,c2,c3,c4,c5,c6,c7⟩,s6⟩:=q;dsimp only at hq hR;subst hR;refine hq.to (dD (.int _ _)) (iN _ _) _ rfl ?_;conv=>whnf
      refine⟨⟨rfl,rfl,trivial⟩,?_⟩;conv=>whnf
      exact⟨_,rfl,eU 8 s.tok.at_ p.1.text 0 [] [.mk c1 c2 c3 c4 c5 c6 c7] [.mk a1 a2 a3 a4] _ _ _,rfl⟩
     ·rw[if_pos hb5]at hR
      subst hR;conv=>whnf
      exact⟨_,rfl,lW,rfl⟩
    ·rw[if_pos hb3]at hR
     subst hR;conv=>whnf
     exact⟨_,rfl,lW,rfl⟩
  ·rw[if_pos hb]at hR
   subst hR;conv=>whnf
   exact⟨_,rfl,lW,rfl⟩
 ·have Al:64<d:=by simp at hdd;omega
  rw[show jX d s=cZ s 3 from if_pos Al,if_pos (fU s 3)]at hR;subst hR;conv=>whnf
  refine F.give hs 3 _ rfl ?_;conv=>whnf
  rw[fU];conv=>whnf
  exact⟨_,rfl,lW,rfl⟩
theorem TW (F:uF T):∀n,Ja T n:=fun n=>Nat.strongRecOn n fun n ih=>by
 cases n with
 |zero=>exact⟨fun d s hs hd hf=>by omega,fun d s hs hd hf=>by omega⟩
 |succ n=>
  have ih':∀m,m≤n→Ja T m:=fun m hm=>ih m (by omega)
  exact⟨fun d s hs hd hf=>Rf F n ih' d s hs hd hf,fun d s hs hd hf=>NG F n ih' d s hs hd hf⟩
end Go.Ag

/- Our texts, joined by a program of ours (join.py): part 9 of 9. -/
import Derived.Test.YtmjgjmaljdgcpaaGreatDoorTextH
set_option linter.unusedVariables false
/- Types asked about under a source's definitions; what the heads of a type give (package parts), in plain lists. -/
namespace Go.Ag
open Go
variable {by_ : List (Bytes × TA)} {e : dG} {C : List TA}
theorem Ta (e:dG) (t:TA):(hdE e t).Nodup:=by
 unfold hdE nU;split
 ·simp
 ·exact(nQ _).imp fun h e=>by rw[e]at h;exact List.lt_irrefl _ h
theorem ask_w {D:List (Bytes×TA)} {ts:List TA} (hD:∀p∈D,jQ p.1∧GT p.2∧wtT p.2≤2^19) (hl:D.length≤8) (hz:iY D≤60) (hts:∀t∈ts,GT t∧wtT t≤2^22∧szT t≤100) (hn:ts.length≤1000) (hE:lC (iL D) e):
  ∃C,gY (iL D) e C∧(∀t∈ts,GC' C t)∧∀t∈ts,wtL (hdE e t)≤2^26:=by
 obtain⟨n1,n2⟩:=J5 D
 have hb:∀p∈iL D,NT p.2∧wtT p.2≤2^19:=fun p hp=>by
  obtain⟨q,hq,rfl⟩:=Ae hp;have:=jL q.2;exact⟨kN (hD q hq).2.1,Nat.le_trans this (hD q hq).2.2⟩
 have hsum:((iL D).map fun p=>szT p.2).sum≤60:=Nat.le_trans n2 hz
 have hone:∀p∈iL D,szT p.2≤60:=fun p hp=>by
  refine Nat.le_trans ?_ hsum
  have:∀{l:List (Bytes×TA)},p∈l→szT p.2≤(l.map fun p=>szT p.2).sum:=fun{l} h=>by
   induction l with
   |nil=>cases h
   |cons a l ih=>
    rw[List.map_cons,List.sum_cons];rcases List.mem_cons.1 h with rfl|h
    ·omega
    ·have:=ih h;omega
  exact this hp
 obtain⟨bs,hbs⟩:∃bs,bs=(iL D).map (·.2) ++ts.map aN:=⟨_,rfl⟩
 have hin:∀b∈bs,NT b∧wtT b≤2^30∧szT b≤100:=fun b h=>by
  rw[hbs]at h;rcases List.mem_append.1 h with h|h
  ·obtain⟨p,hp,rfl⟩:=List.mem_map.1 h
   have:=hone p hp;exact⟨(hb p hp).1,Nat.le_trans (hb p hp).2 (by decide),by omega⟩
  ·obtain⟨t,ht,rfl⟩:=List.mem_map.1 h
   obtain⟨k1,k2,k3⟩:=hts t ht;exact⟨kN k1,Nat.le_trans (jL t) (Nat.le_trans k2 (by decide)),Nat.le_trans (Jd t) k3⟩
 have W:gY (iL D) e (bs.flatMap gU):=TI hE (Br D) bs (fun p hp=>by rw[hbs];exact List.mem_append_left _ (List.mem_map.2 ⟨p,hp,rfl⟩)) (fun t ht=>(hin t ht).1) (fun t ht=>(hin t ht).2.1) (fun t ht=>(hin t ht).2.2)
  (by rw[hbs,List.length_append,List.length_map,List.length_map];omega) (by omega) hsum
 have hc:∀t∈ts,GC' (bs.flatMap gU) t:=fun t ht=>Ed (hts t ht).1 (Nat.le_trans (hts t ht).2.1 (by decide)) (by rw[hbs];exact List.mem_append_right _ (List.mem_map.2 ⟨t,ht,rfl⟩))
 refine⟨_,W,hc,fun t ht=>?_⟩;have h1:=Oy (m:=2^19) (fun p hp=>(hb p hp).2) hsum;have h2:=yG (aN t);have h3:=jL t;have h4:wtT dV=16:=rfl;have h5:=(hts t ht).2.1
 have h6:=zS (B:=dV::(dU (aN t) ++(iL D).flatMap fun p=>gU p.2)) (Ta e t) fun z hz=>by
  rcases(W.vF (hc t ht)).1 hz with h|h
  ·rw[h.2];simp
  ·rcases RI (fun p hp=>(hb p hp).1) h.2 (kN (hts t ht).1)with h|h|h
   ·subst h;simp
   ·simp[h]
   ·exact List.mem_cons_of_mem _ (List.mem_append_right _ h)
 rw[wtL,tF]at h6;omega
theorem MR {l:List TA} (h:∀t∈l,NT t∧t.kind≠7) (h0:l≠[]):(dV∈dU (mD l)↔dV∈l)∧(dV∉l→∀x,x∈dU (mD l)↔x∈l):=by
 have hn:∀t∈l,NT t:=fun t ht=>(h t ht).1
 have hu:dU (mD l)=Ar (mD l):=by unfold dU Ar;rfl
 rw[hu,D7 h h0];unfold nU;cases hd:l.any (fun t=>t.kind==4)
 ·have h4:dV∉l:=fun hm=>by
   have:l.any (fun t=>t.kind==4)=true:=List.any_eq_true.2 ⟨_,hm,rfl⟩;rw[hd]at this;cases this
  rw[if_neg (by simp)];exact⟨tY hn,fun _ x=>tY hn⟩
 ·obtain⟨t,ht,h4⟩:=List.any_eq_true.1 hd
  have:t=dV:=(hn t ht).AB (by simpa using h4);subst this;rw[if_pos rfl];exact⟨by simp[ht],fun hn=>absurd ht hn⟩
theorem Y8 (W:gY by_ e C) {x y:TA} (hx:GC' C x) (hy:GC' C y) (hu:GC' C (uT x y)):
  ((dV∈hdE e x∨dV∈hdE e y)→hdE e (uT x y)=[dV])∧(dV∉hdE e x→dV∉hdE e y→∀z,z∈hdE e (uT x y)↔z∈hdE e x∨z∈hdE e y):=by
 have hj:=Jk (by_:=by_) (Ea hx.1 hy.1) (by simp);have h2:∀{P:TA→Prop},(∃t∈[x,y],P t)↔P x∨P y:=fun{P}=>by simp
 rw[h2]at hj;have hd:∀{t:TA},GC' C t→(dV∈hdE e t↔Spr by_ (aN t) dV):=fun{t} ht=>by rw[W.vF ht];exact⟨fun h=>h.elim (fun h=>h.1) fun h=>h.2,fun h=>.inl ⟨h,rfl⟩⟩
 rw[hd hx,hd hy];constructor
 ·intro h
  have h1:Spr by_ (aN (uT x y)) dV:=hj.1.2 h;unfold hdE nU;rw[if_pos];exact List.any_eq_true.2 ⟨dV,(om W.ok W.nodup _ _).2 h1,rfl⟩
 ·intro n1 n2 z
  have hn:¬(Spr by_ (aN x) dV∨Spr by_ (aN y) dV):=fun h=>h.elim n1 n2
  have h1:=hj.2 hn z;rw[h2]at h1;have h3:¬Spr by_ (aN (uT x y)) dV:=fun h=>hn (hj.1.1 h)
  rw[W.vF hu,W.vF hx,W.vF hy];simp only[h3,n1,n2,false_and,not_false_eq_true,true_and,false_or];exact h1
end Go.Ag
/- Package parts: each (what each head gives). -/
namespace Go.Ag
open Go
variable {T : Tab} {L : Lnk} {σ : Type}
end Go.Ag
/- Package parts: Field; package types: Alike. -/
namespace Go.Ag
open Go
variable {T : Tab} {L : Lnk}
end Go.Ag
/- cupelref05.TypeOf, cupellaw07.Parsed, cupellaw09.Made. -/
namespace Go.Ag
open Go
variable {T : Tab} {L : Lnk}
structure Vg (T:Tab):Prop extends Vk T where
 Xc:T.has 233 Uq
theorem Ja (F:Vg T) (src:Bytes) (hs:src.length≤2^31):Pure T.L 233 [.str src] (.tup [(gK src).1.av,.bool (gK src).2]):=by
 refine Pure.Mg 1 (dF (.str _)) (.tup _ (gq.at ⟨aT _ _,.bool _,trivial⟩)) (aG F.Xc (by simp[Uq]) ?_);have hR:=gK.eq_1 src;unfold Fg uI at hR;generalize gK src=R at hR⊢;conv=>whnf
 refine F.toVk.of src (by omega) _ rfl ?_;conv=>whnf
 have hok:=(mR src (by omega)).1;have hq:=(CK F.touH (lK src)).type 1 (bE src) hok (by omega) (Nat.le_refl _);have hle:=(bN (lK src)).1 1 (bE src) hok;obtain⟨q,hqe⟩:∃q,bM (lK src) 1 (bE src)=q:=⟨_,rfl⟩;rw[hqe]at hq hle hR;obtain⟨⟨a1,a2,a3,a4⟩,s⟩:=q;dsimp only at hq hle hR;have hs':=hok.of hle;refine hq.to2 (dF (.int _ _)) (aT _ _) _ _ rfl ?_;conv=>whnf
 have e0:(s.diags.map bO.av).length=s.diags.length:=by simp
 cases hb:s.bad
 ·conv=>whnf
  refine jN hs' ?_;conv=>whnf
  refine⟨Nat.zero_le _,?_⟩;conv=>whnf
  cases hk:(s.tok.kind !=6)
  ·have hk6:(s.tok.kind==6)=true:=by simpa[bne]using hk
   conv=>whnf
   rw[e0];cases hd:decide (((s.diags.length:Nat):Int)>0)
   ·have h0:(s.diags.length==0)=true:=by simp at hd⊢;exact hd
    rw[hb,hk6,h0]at hR;have hR:R=(TA.mk a1 a2 a3 a4,true):=hR;subst hR;conv=>whnf
    exact aH (Weak.refl _)
   ·have h0:(s.diags.length==0)=false:=by
     have:=of_decide_eq_true hd;simp;intro h;rw[h]at this;exact absurd this (by decide)
    rw[hb,hk6,h0,if_neg (by simp)]at hR;subst hR;conv=>whnf
    exact aH (Weak.tup ⟨iE,Weak.refl _,trivial⟩)
  ·have hk6:(s.tok.kind==6)=false:=by simpa[bne]using hk
   rw[hb,hk6,if_neg (by simp)]at hR;subst hR;conv=>whnf
   exact aH (Weak.tup ⟨iE,Weak.refl _,trivial⟩)
 ·rw[hb,if_neg (by simp)]at hR
  subst hR;conv=>whnf
  exact aH (Weak.tup ⟨iE,Weak.refl _,trivial⟩)
def qZ (s:Bytes):Bool:=decide (s.length≤600)&&(gK s).2
def iJ (l:List Bytes):List TA:=if l.all qZ then l.map fun s=>(gK s).1 else[]
structure Vj (T:Tab):Prop extends Vg T,zL T where
 Xq:T.has 194 UF
theorem BO (F:Vj T) (l:List Bytes) (hl:l.length≤2^20):Pure T.L 194 [.lst (aO l) .none] (.tup [.lst (TA.avs (iJ l)) .none,.lst (TA.avs (iJ l)) .none,.bool (l.all qZ&&decide (l.length≤12))]):=by
 refine Pure.Mg 2 (dF (dQ _ _ _ trivial)) (.tup _ (gq.at ⟨.lst _ _ trivial (aY _ _),.lst _ _ trivial (aY _ _),.bool _,trivial⟩)) (aG F.Xq (by simp[UF]) ?_);have hLen:(aO l).length=l.length:=by simp[aO]
 obtain⟨res,hres⟩:∃res,au.tup [.lst (TA.avs (iJ l)) .none,.lst (TA.avs (iJ l)) .none,.bool (l.all qZ&&decide (l.length≤12))]=res:=⟨_,rfl⟩;rw[hres]
 have hno:∀s∈l,qZ s=false→Weak T.L (.tup [.lst [] .nil,.lst [] .nil,.bool false]) res:=fun s hs h=>by
  have:l.all qZ=false:=by
   rw[List.all_eq_false];exact⟨s,hs,by rw[h];decide⟩
  unfold iJ at hres;rw[this]at hres;subst hres;exact Weak.tup ⟨Weak.tok _ _,Weak.tok _ _,Weak.refl _,trivial⟩
 conv=>whnf
 intro I hI hG
 have key:∀(d j:Nat) (e:Env),l.length-j=d→j≤l.length→(∀s∈l.take j,qZ s=true)→
   I (fJ e [(0,.lst (aO l) .none),(5,.lst (TA.avs ((l.take j).map fun s=>(gK s).1)) (bJ ((l.take j).map fun s=>(gK s).1).length 0)),(6,.lst (TA.avs ((l.take j).map fun s=>(gK s).1)) (bJ ((l.take j).map fun s=>(gK s).1).length 1)),(7,.int .i64 j)])
    [bC ((l.take j).map fun s=>(gK s).1).length 175,bC ((l.take j).map fun s=>(gK s).1).length 109]:=by
  intro d
  induction d with
  |zero=>
   intro j e hd hj ha;have hjl:j=l.length:=by omega
   subst hjl;rw[List.take_length]at ha⊢;have hall:l.all qZ=true:=List.all_eq_true.2 ha;unfold iJ at hres;rw[hall]at hres;have hres:au.tup [.lst (TA.avs (l.map fun s=>(gK s).1)) .none,.lst (TA.avs (l.map fun s=>(gK s).1)) .none,.bool (decide (l.length≤12))]=res:=hres;generalize l.map (fun s=>(gK s).1)=ts at hres⊢;apply hI;conv=>whnf
   rw[hLen,show decide (((l.length:Nat):Int)<((l.length:Nat):Int))=false from decide_eq_false (by omega)];conv=>whnf
   rw[hLen,←hres];refine⟨_,rfl,Weak.tup ⟨Weak.tok _ _,Weak.tok _ _,?_,trivial⟩⟩;rw[show decide (((l.length:Nat):Int)≤12)=decide (l.length≤12)from decide_eq_decide.2 (by omega)];exact Weak.refl _
  |succ d ihd=>
   intro j e hd hj ha;have hjl:j<l.length:=by omega
   have hget:(aO l)[((j:Nat):Int).toNat]?=some (.str l[j]):=by
    rw[Int.toNat_natCast];simp[aO,List.getElem?_map,List.getElem?_eq_getElem hjl]
   have hnext:=fun e h=>ihd (j+1) e (by omega) hjl h
   have hm:=List.getElem_mem hjl;rw[List.take_succ_eq_append_getElem hjl,List.map_append,List.map_singleton]at hnext;have hn2:=fun(h:qZ l[j]=true) e=>hnext e fun s hs=>(List.mem_append.1 hs).elim (ha s) fun h'=>by rw[List.mem_singleton]at h';rw[h'];exact h
   clear hnext;have hno:=hno _ hm;have hacc:((l.take j).map fun s=>(gK s).1).length=j:=by rw[List.length_map,List.length_take];omega
   generalize (l.take j).map (fun s=>(gK s).1)=acc at hn2 hacc⊢;generalize l[j]=s at hget hn2 hno;have h1:s.length≤600→_:=fun h=>GA F.tozL s (by omega)
   have h2:s.length≤600→_:=fun h=>Ja F.toVg s (by omega)
   unfold qZ at hn2 hno;apply hI;conv=>whnf
   rw[hLen,dz hjl];conv=>whnf
   refine step_elem (Int.natCast_nonneg _) hget rfl ?_;conv=>whnf
   by_cases Wy:s.length≤600
   case neg=>
    rw[show decide (((s.length:Nat):Int)>600)=true from decide_eq_true (by omega)];conv=>whnf
    exact⟨_,rfl,hno (by rw[decide_eq_false Wy];rfl)⟩
   rw[show decide (((s.length:Nat):Int)>600)=false from decide_eq_false (by omega)];have h1:=h1 Wy;have h2:=h2 Wy;rw[decide_eq_true Wy]at hn2 hno;generalize gK s=r at h1 h2 hn2 hno;obtain⟨x,b⟩:=r;dsimp only at h1 h2 hn2 hno;rw[Bool.true_and]at hn2 hno;have e1:TA.avs (acc ++[x])=TA.avs acc ++[x.av]:=jC acc [x];have e2:(acc ++[x]).length=(TA.avs acc ++[x.av]).length:=by rw[←e1,bX]
   have hsz:=gM acc;have hs1:=gM [x];rw[e1,e2]at hn2;have hla:(TA.avs acc).length=acc.length:=bX acc;rw[←hla]at hacc⊢;have hlo:=aY 2 (acc ++[x]);rw[e1]at hlo;obtain⟨xk,xn,xs,xl⟩:=x;conv=>whnf
   refine step_elem (Int.natCast_nonneg _) hget rfl ?_;conv=>whnf
   refine h1.to ?_;conv=>whnf
   refine step_elem (Int.natCast_nonneg _) hget rfl ?_;conv=>whnf
   refine h2.to ?_;cases b
   ·conv=>whnf
    exact⟨_,rfl,hno rfl⟩
   conv=>whnf
   refine dS (xs:=TA.avs acc) (id:=0) (k:=4) (bytes:=72) (t:=175) hsz hs1 (by rw[bX];simp;omega) (by rw[bX];simp;omega) (by simp[TA.avs]) rfl ?_;conv=>whnf
   refine dS (xs:=TA.avs acc) (id:=1) (k:=4) (bytes:=72) (t:=109) hsz hs1 (by rw[bX];simp;omega) (by rw[bX];simp;omega) (by simp[TA.avs]) rfl ?_;conv=>whnf
   refine hG.keep [(0,.lst (aO l) .none),(5,.lst (TA.avs acc ++[(TA.mk xk xn xs xl).av]) (bJ (TA.avs acc ++[(TA.mk xk xn xs xl).av]).length 0)),(6,.lst (TA.avs acc ++[(TA.mk xk xn xs xl).av]) (bJ (TA.avs acc ++[(TA.mk xk xn xs xl).av]).length 1)),(7,.int .i64 (j+1:Nat))]
    [bC (TA.avs acc ++[(TA.mk xk xn xs xl).av]).length 175,bC (TA.avs acc ++[(TA.mk xk xn xs xl).av]).length 109] (Nat.le_refl 2) rfl ⟨rfl,rfl,rfl,add1 (by omega),trivial⟩
    ⟨dQ _ _ _ trivial,.lst _ _ (dP (show 0<2 by decide)) hlo,.lst _ _ (dP (show 1<2 by decide)) hlo,.int _ _,trivial⟩ ⟨bG _ _ _,bG _ _ _,trivial⟩ (hn2 rfl _)
 exact inv_of [(0,.lst (aO l) .none),(5,.lst (TA.avs []) (bJ 0 0)),(6,.lst (TA.avs []) (bJ 0 1)),(7,.int .i64 (0:Nat))] ⟨rfl,rfl,rfl,rfl,trivial⟩ (key l.length 0 _ rfl (Nat.zero_le _) (fun s hs=>by cases hs))
end Go.Ag
/- cupellaw09.Made. -/
namespace Go.Ag
open Go
variable {T : Tab} {L : Lnk}
structure EL (T:Tab):Prop extends zN T,Vj T where
 Te:T.has 155 O1
theorem yS {l:List Bytes} {t:TA} (h:t∈iJ l):GT t∧wtT t≤2^19:=by
 unfold iJ at h;split at h
 ·rename_i ha
  obtain⟨s,hs,rfl⟩:=List.mem_map.1 h;have h1:=List.all_eq_true.1 ha s hs;unfold qZ at h1;rw[Bool.and_eq_true,decide_eq_true_eq]at h1;have h2:=LW s (by omega) h1.2;have:(s.length+82)*(s.length+1)≤682*601:=Nat.mul_le_mul (by omega) (by omega);exact⟨h2.1,by omega⟩
 ·cases h
def sumOf (l:List TA):Nat:=(l.map szT).sum
theorem sz_le (t:TA):szT t≤wtT t:=by
 have:=Co _ t (Nat.le_refl _);show(allT t).length≤_;omega
theorem Vm (F : EL T) (src : Bytes) (l : List Bytes) (hs : src.length ≤ 600) (hl : l.length ≤ 2 ^ 20) (H : Heap) :
  aC T.L 155 [.str src, .lst (aO l) .none] H fun r H' => ∃ e o0 o1, lC (iL (gL src)) e ∧ H' = H ++ [o0, o1, .map (dh e.by_ 0) e.by_.length, .map (gI e.empty 0) e.empty.length, .cells [.map (H.length + 2), .map (H.length + 3)] 234] ∧
   ((l.all qZ = true ∧ (gL src).length ≤ 8 ∧ iY (gL src) ≤ 60 ∧ r = .ret (.tup [.ptr (H.length + 4) 0, .lst (fV (gL src)) .none, .lst (TA.avs (iJ l)) .none, .lst (TA.avs (iJ l)) .none, .bool (decide (sumOf (iJ l) ≤ 40))])) ∨
    r = .ret (.tup [.eG, .lst [] .nil, .lst [] .nil, .lst [] .nil, .bool false])) := by
 have hM := Yd F.tozN src hs
 have hP := BO F.toVj l hl
 have hD := tK src hs
 have hDl := Ba src hs
 have hg := fun t (h : t ∈ iJ l) => yS h
 have h12 : l.all qZ = true → (iJ l).length = l.length := fun h => by unfold iJ; rw [if_pos h, List.length_map]
 have hSm := Ns F.tozN (gL src) hDl (fun p hp => Nat.le_trans (hD p hp).2.2 (by decide)) .none trivial
 generalize gL src = D at hM hD hDl hSm ⊢
 generalize iJ l = ts at hP hg h12 ⊢
 refine aG F.Te (by simp [O1]) ?_
 have hLen : (TA.avs ts).length = ts.length := bX ts
 conv => whnf
 refine (hM _).mono fun r H' ⟨e, o0, o1, hok, e1, e2⟩ => ?_
 subst e1
 conv => whnf
 refine hP.to ?_
 conv => whnf
 by_cases h8 : D.length ≤ 8
 case neg =>
  rw [decide_eq_false h8]
  conv => whnf
  exact ⟨e, o0, o1, hok, e2, .inr rfl⟩
 rw [decide_eq_true h8]
 cases ha : (l.all qZ && decide (l.length ≤ 12))
 ·conv => whnf
  exact ⟨e, o0, o1, hok, e2, .inr rfl⟩
 rw [Bool.and_eq_true, decide_eq_true_eq] at ha
 conv => whnf
 refine hSm.to ?_
 conv => whnf
 by_cases hz : iY D ≤ 60
 case neg =>
  rw [decide_eq_false hz]
  conv => whnf
  exact ⟨e, o0, o1, hok, e2, .inr rfl⟩
 rw [decide_eq_true hz]
 conv => whnf
 intro I hI hG
 have hsum : ∀ j, j ≤ ts.length → sumOf (ts.take j) ≤ j * 2 ^ 19 := fun j => by
  induction j with
  | zero => intro _; simp [sumOf]
  | succ j ih =>
   intro hj
   have h1 := ih (by omega)
   have h2 := sz_le ts[j]
   have h3 := (hg _ (List.getElem_mem (show j < ts.length by omega))).2
   unfold sumOf at h1 ⊢
   rw [List.take_succ_eq_append_getElem (by omega), List.map_append, List.sum_append_nat, List.map_singleton, List.sum_singleton]
   omega
 have hts : ts.length ≤ 12 := by rw [h12 ha.1]; exact ha.2
 have key : ∀ (d j : Nat) (e' : Env), ts.length - j = d → j ≤ ts.length →
   I (fJ e' [(9, .ptr (H.length + 4) 0), (10, .lst (fV D) .none), (12, .lst (TA.avs ts) .none), (13, .lst (TA.avs ts) .none), (15, .int .i64 (sumOf (ts.take j) : Nat)), (16, .int .i64 j)]) H' := by
  intro d
  induction d with
  | zero =>
   intro j e' hd hj
   have hjl : j = ts.length := by omega
   subst hjl
   rw [List.take_length]
   apply hI
   conv => whnf
   rw [hLen, show decide (((ts.length : Nat) : Int) < ((ts.length : Nat) : Int)) = false from decide_eq_false (by omega)]
   conv => whnf
   rw [show decide (((sumOf ts : Nat) : Int) ≤ 40) = decide (sumOf ts ≤ 40) from decide_eq_decide.2 (by omega)]
   exact ⟨e, o0, o1, hok, e2, .inl ⟨ha.1, h8, hz, rfl⟩⟩
  | succ d ihd =>
   intro j e' hd hj
   have hjl : j < ts.length := by omega
   have hget := mQ hjl
   have hnext := fun e => ihd (j + 1) e (by omega) hjl
   have hs1 := hsum (j + 1) hjl
   have e3 : sumOf (ts.take (j + 1)) = sumOf (ts.take j) + szT ts[j] := by
    unfold sumOf
    rw [List.take_succ_eq_append_getElem hjl, List.map_append, List.sum_append_nat, List.map_singleton, List.sum_singleton]
   rw [e3] at hnext hs1
   have hwj := (hg _ (List.getElem_mem hjl)).2
   have hc := uY F.KD _ ts[j] (Nat.lt_succ_self _) (by omega)
   generalize ts[j] = v at hget hc hnext hs1 hwj
   generalize sumOf (ts.take j) = m at hnext hs1 ⊢
   apply hI
   obtain ⟨vk, vn, vs, vl⟩ := v
   conv => whnf
   rw [hLen, dz hjl]
   conv => whnf
   refine step_elem (Int.natCast_nonneg _) hget rfl ?_
   conv => whnf
   refine hc.to ?_
   conv => whnf
   refine inv_of [(9, .ptr (H.length + 4) 0), (10, .lst (fV D) .none), (12, .lst (TA.avs ts) .none), (13, .lst (TA.avs ts) .none), (15, .int .i64 ((m + szT (.mk vk vn vs vl) : Nat) : Int)), (16, .int .i64 (j + 1 : Nat))] ⟨rfl, rfl, rfl, rfl, ?_, add1 (by omega), trivial⟩ (hnext _)
   show au.int .i64 (IntKind.i64.wrap (((m : Nat) : Int) + ((szT (.mk vk vn vs vl) : Nat) : Int))) = _
   rw [IntWalk.i64_in _ (by omega)]
   congr 1
 exact inv_of [(9, .ptr (H.length + 4) 0), (10, .lst (fV D) .none), (12, .lst (TA.avs ts) .none), (13, .lst (TA.avs ts) .none), (15, .int .i64 (0 : Nat)), (16, .int .i64 (0 : Nat))] ⟨rfl, rfl, rfl, rfl, rfl, rfl, trivial⟩ (key ts.length 0 _ rfl (Nat.zero_le _))
theorem Nu (F:EL T) (src:Bytes) (l:List Bytes) (hs:600<src.length) (hl:l.length≤2^20):Pure T.L 155 [.str src,.lst (aO l) .none] (.tup [.eG,.lst [] .nil,.lst [] .nil,.lst [] .nil,.bool false]):=by
 have hP:=BO F.toVj l hl;refine Pure.run (gq.at ⟨.str _,dQ _ _ _ trivial,trivial⟩) (.tup _ (gq.at ⟨.eG,.lst _ _ trivial fK,.lst _ _ trivial fK,.lst _ _ trivial fK,.bool _,trivial⟩)) (aG F.Te (by simp[O1]) ?_);conv=>whnf
 refine(Rn F.tozN src hs).to ?_;conv=>whnf
 refine hP.to ?_;conv=>whnf
 exact aH (Weak.refl _)
end Go.Ag
/- Laws of the greatest sound relation: it is transitive, goes into the loose one, and takes unions, records and functions apart. -/
namespace Go.Ag
open Go
section
variable {G : TA → Prop} {hd : TA → List TA}
theorem LE.loosen {a b:TA} (h:LE G hd false a b):LE G hd true a b:=
 LE.OC (R:=LE G hd false) (fun x y h=>by
  obtain⟨h1,h2,h3⟩:=h.out;refine⟨h1,h2,fun z hz=>?_⟩;obtain⟨w,hw,hu⟩:=h3 z hz;refine⟨w,hw,?_⟩;rcases hu with⟨k1,_⟩|⟨k1,k2,k3⟩
  ·exact .inl ⟨k1,rfl⟩
  ·exact .inr ⟨k1,k2,k3.imp id fun hb=>hb.mono fun _ _ h=>.inl h⟩) h
theorem LE.trans (H:jK G hd) {a b c:TA} (h:LE G hd false a b) (h':LE G hd false b c):LE G hd false a c:=
 LE.OC (R:=fun x z=>∃y,LE G hd false x y∧LE G hd false y z) (fun a c ⟨b,h,h'⟩=>by
  obtain⟨ga,gb,h1⟩:=h.out;obtain⟨_,gc,h2⟩:=h'.out;refine⟨ga,gc,fun x hx=>?_⟩;obtain⟨y,hy,u1⟩:=h1 x hx;obtain⟨z,hz,u2⟩:=h2 y hy;refine⟨z,hz,?_⟩;rcases u1 with⟨k1,k2⟩|⟨k1,k2,k3⟩
  ·have e1:x.kind=y.kind:=by simpa using k2
   rcases u2 with⟨k4,k5⟩|⟨k4,k5,k6⟩
   ·have e2:y.kind=z.kind:=by simpa using k5
    exact .inl ⟨.inl (by rcases k1 with k|k<;>omega),by simp[e1,e2]⟩
   ·exact absurd (show y.kind=4∨z.kind=4 from .inl (by rcases k1 with k|k<;>omega)) k4
  ·rcases u2 with⟨k4,k5⟩|⟨k4,k5,k6⟩
   ·have e2:y.kind=z.kind:=by simpa using k5
    exact absurd (show x.kind=4∨y.kind=4 from .inr (by rcases k4 with k|k<;>omega)) k1
   ·refine .inr ⟨fun h=>h.elim (fun h=>k1 (.inl h)) fun h=>k4 (.inr h),k2.trans k5,?_⟩
    rcases k3 with k3|b1
    ·exact .inl k3
    rcases k6 with k6|b2
    ·exact .inl (by rw[k2];exact k6)
    refine .inr ?_;unfold jB at b1 b2⊢
    by_cases h5:x.kind=5
    ·rw[if_pos h5]at b1⊢
     rw[if_pos (by omega)]at b2;obtain⟨e3,e4⟩:=H.rcd b gb y hy (by omega);intro p hp;obtain⟨m1,r1⟩:=b2 p hp;have hat:=(vI e4).2 m1;obtain⟨i1,i2⟩:=List.getElem?_eq_some_iff.1 hat;have i3:lQ y.names p.1<y.l.length:=by omega
     have hm:(p.1,y.l[lQ y.names p.1])∈y.names.zip y.l:=by
      refine List.mem_iff_getElem.2 ⟨lQ y.names p.1,by rw[List.length_zip];omega,?_⟩;rw[List.getElem_zip,i2]
     obtain⟨m2,r2⟩:=b1 _ hm;refine⟨m2,.inl ⟨_,r2,?_⟩⟩;rw[List.getElem?_eq_getElem i3]at r1;exact r1
    ·rw[if_neg h5]at b1⊢
     rw[if_neg (by omega)]at b2;obtain⟨x0,x1,y0,y1,e1,e2,r1,r2⟩:=b1;obtain⟨y0',y1',z0,z1,e3,e4,r3,r4⟩:=b2;rw[e2]at e3;cases e3
     exact⟨x0,x1,z0,z1,e1,e4,.inl ⟨_,r3,r1⟩,.inl ⟨_,r2,r4⟩⟩) ⟨b,h,h'⟩
theorem LE.uni_l {loose:Bool} {a c u b:TA} (gu:G u) (ga:G a) (gc:G c) (h:∀x,x∈hd u↔x∈hd a∨x∈hd c):LE G hd loose u b↔LE G hd loose a b∧LE G hd loose c b:=
  ⟨fun k=>⟨k.congr ga k.out.2.1 (fun x hx=>(h x).2 (.inl hx)) fun _ h=>h,k.congr gc k.out.2.1 (fun x hx=>(h x).2 (.inr hx)) fun _ h=>h⟩,
   fun⟨k1,k2⟩=>LE.fold gu k1.out.2.1 fun x hx=>((h x).1 hx).elim (k1.out.2.2 x) (k2.out.2.2 x)⟩
theorem LE.Yg {loose:Bool} (H:jK G hd) {a u:TA} (gu:G u) (ga:G a) (h:∀x,x∈hd a→x∈hd u):LE G hd loose a u:=
 (LE.refl H ga).congr ga gu (fun _ h=>h) h
end
variable {by_ : List (Bytes × TA)} {e : dG} {C : List TA}
theorem RP (W:gY by_ e C) {t:TA} (ht:GC' C t):C8 e t=[63]↔dV∈hdE e t:=by
 have hw:=W.wh ht.2.2;have hn:NT (zT e t):=Oe hw.1 hw.2;have hs:prT dV 0=[63]:=by decide
 have h0:C8 e t=[63]↔zT e t=dV:=⟨fun h=>hn.inj .dyn (by rw[hs];exact h),fun h=>by unfold C8;rw[h];exact hs⟩;rw[h0];have hi:=fun y=>om W.ok W.nodup (aN t) y
 have hm:dV∈hdE e t↔dV∈rX e (aN t):=by
  rw[W.vF ht,hi];exact⟨fun h=>h.elim (fun h=>h.1) fun h=>h.2,fun h=>.inl ⟨h,rfl⟩⟩
 rw[hm];constructor
 ·intro h
  have hp:=(MR hw.1 hw.2).1;rw[←hp];have:mD (rX e (aN t))=dV:=h;rw[this];exact List.mem_singleton.2 rfl
 ·intro h
  show mD (rX e (aN t))=dV;rw[join_eq hw.1 hw.2,if_pos h]
end Go.Ag
/- What the judge answers, as the laws of package cupellaw09 ask it: the plain laws. -/
namespace Go.Ag
open Go
variable {by_ : List (Bytes × TA)} {e : dG} {C : List TA} {T : Tab}
open Classical in
noncomputable def uU (C:List TA) (e:dG) (a b:TA):Bool:=decide (LE (GC' C) (hdE e) false a b)
open Classical in
noncomputable def XR (C:List TA) (e:dG) (a b:TA):Bool:=decide (LE (GC' C) (hdE e) true a b)
theorem ji {a b:TA}:uU C e a b=true↔LE (GC' C) (hdE e) false a b:=by unfold uU;simp
theorem XQ {a b:TA}:XR C e a b=true↔LE (GC' C) (hdE e) true a b:=by unfold XR;simp
theorem gY.YD (W:gY by_ e C) (F:nk T) {a b:TA} (ha:GC' C a) (hb:GC' C b):EK T.L 162 [a.av,b.av] e (.bool (uU C e a b)):=W.sub F ha hb
theorem gY.fitE (W:gY by_ e C) (F:nk T) {a b:TA} (ha:GC' C a) (hb:GC' C b):EK T.L 163 [a.av,b.av] e (.bool (XR C e a b)):=W.fits F ha hb
theorem gY.TG (W:gY by_ e C) (F:nk T) {a b:TA} (ha:GC' C a) (hb:GC' C b):EK T.L 169 [a.av,b.av] e (.bool (uU C e a b&&uU C e b a)):=
 Nv F a b _ _ (W.YD F ha hb) (W.YD F hb ha)
theorem O8 {a b:Bool} (h:a=true↔b=true):a=b:=by cases a<;>cases b<;>simp at h⊢
structure SRB (p q r f yx zy xx xu zu uy dy:Bool):Prop where
 re:xx=true
 tr:p=true→q=true→r=true
 lo:p=true→f=true
 eq:p=true→yx=true→r=q
 un:dy=false→xu=true∧zu=true∧uy=(p&&zy)
theorem sr_of (W:gY by_ e C) {x y z:TA} (hx:GC' C x) (hy:GC' C y) (hz:GC' C z) (hu:GC' C (uT x z)):
  SRB (uU C e x y) (uU C e y z) (uU C e x z) (XR C e x y) (uU C e y x) (uU C e z y) (uU C e x x) (uU C e x (uT x z)) (uU C e z (uT x z)) (uU C e (uT x z) y) (C8 e (uT x z)==[63])where
 re:=ji.2 (LE.refl W.heads hx)
 tr:=fun h1 h2=>ji.2 ((ji.1 h1).trans W.heads (ji.1 h2))
 lo:=fun h=>XQ.2 (ji.1 h).loosen
 eq:=fun h1 h2=>O8 ⟨fun h=>ji.2 ((ji.1 h2).trans W.heads (ji.1 h)),fun h=>ji.2 ((ji.1 h1).trans W.heads (ji.1 h))⟩
 un:=fun h=>by
  have hn:dV∉hdE e (uT x z):=fun hm=>by
   rw[(RP W hu).2 hm]at h;cases h
  have hh:=Y8 W hx hz hu;have n1:dV∉hdE e x:=fun hm=>hn (by rw[hh.1 (.inl hm)];simp)
  have n2:dV∉hdE e z:=fun hm=>hn (by rw[hh.1 (.inr hm)];simp)
  have hz':=hh.2 n1 n2;refine⟨ji.2 (LE.Yg W.heads hu hx fun w hw=>(hz' w).2 (.inl hw)),ji.2 (LE.Yg W.heads hu hz fun w hw=>(hz' w).2 (.inr hw)),O8 ?_⟩;rw[ji,LE.uni_l hu hx hz hz',Bool.and_eq_true,ji,ji]
end Go.Ag
/- Bodies piece by piece; calls that leave all as it is. -/
namespace Go.Ag
open Go
variable {T : Tab} {L : Lnk}
def Sc (P:Env→Heap→Prop):oH:=fun x e H=>match x with
 |.normal=>P e H
 |_=>False
theorem yN {a b:AC} {e:Env} {H:Heap} {P:Env→Heap→Prop} {Q:oH} (ha:dJ L a e H (Sc P)) (hb:∀e' H',P e' H'→dJ L b e' H' Q):dJ L (.seq a b) e H Q:=by
 show dJ L a e H (rZ (fun e' H'=>dJ L b e' H' Q) Q);refine kD (fun x e' H' hx=>?_) ha
 cases x with
 |normal=>exact hb _ _ hx
 |_=>exact hx.elim
def fstS :AC→AC
 |.seq a _=>a
 |c=>c
def sndS :AC→AC
 |.seq _ b=>b
 |_=>.skip
def ko (L:Lnk) (f:Nat) (args:List au) (H0:Heap) (y:au):Prop:=∀H',Go.Ag.agree H0.length H0 H'→aC L f args H' fun r H''=>r=.ret y∧H''=H'
theorem ko.use {f:Nat} {args:List au} {H0:Heap} {y:au} (h:ko L f args H0 y) {K:au→Prop} (hk:K y):∃v,(∀H',Go.Ag.agree H0.length H0 H'→aC L f args H' fun r H''=>r=.ret v∧H''=H')∧K v:=⟨y,h,hk⟩
theorem ko.to {f:Nat} {args:List au} {H:Heap} {y:au} (h:ko L f args H y) {K KP:au→Heap→Prop} (hk:K y H):aC L f args H (eF K KP):=
 (h H ⟨Nat.le_refl _,fun _ _ _ h _ _=>h⟩).mono fun r H' ⟨e1,e2⟩=>by subst e1 e2;exact hk
theorem ko.weak {f:Nat} {args args':List au} {H:Heap} {y:au} (h:ko L f args' H y) (hw:nA L args args'):ko L f args H y:=fun H' hg=>aC.Fa (h H' hg) hw
theorem EK.Jo {f : Nat} {args : List au} {e : dG} {y : au} (h : EK L f args e y) (ha : ∀ x ∈ args, Low 0 x) (hy : Low 0 y) {H0 : Heap} {a : Nat} (hA : GI e H0 a) : ko L f (.ptr (a + 2) 0 :: args) H0 y := fun H' hg =>
 (h.any ha hy (hA.agree hg) (K := fun v H'' => v = y ∧ H'' = H') (KP := fun _ _ => False) ⟨rfl, rfl⟩).mono fun r H'' hq => by
  cases r with
  | ret v => exact ⟨by rw [hq.1], hq.2⟩
  | pan v => exact hq.elim
end Go.Ag
/- Package cupellaw09: SubRules. -/
namespace Go.Ag
open Go
variable {T : Tab} {L : Lnk}
structure Vi (T:Tab):Prop extends EL T,Nw T where
 Tg:T.has 136 ny
 QF:T.has 145 O4
def srV (x y z:TA):List (Nat×au):=[(9,.ptr 4 0),(11,.lst [x.av,y.av,z.av] .none)]
def srW (x y z:TA) (p q r:Bool):List (Nat×au):=[(9,.ptr 4 0),(11,.lst [x.av,y.av,z.av] .none),(14,.bool p),(15,.bool q),(16,.bool r)]
def srU (x z:TA):au:=.agg [.int .i64 7,.str [],.lst [] .nil,.lst [x.av,z.av] .full]
def srO (x z:TA):aU:=.cells [.int .i64 7,.str [],.lst [] .nil,.lst [x.av,z.av] .full] 175
def srX (x y z:TA) (p q r:Bool):List (Nat×au):=[(9,.ptr 4 0),(11,.lst [x.av,y.av,z.av] .none),(14,.bool p),(15,.bool q),(16,.bool r),(17,.ptr 5 0)]
def srQ (L:Lnk):oH:=Tj [.tmp 8] fun r _=>∃x,r=.ret x∧Weak L x (.bool true)
theorem sr_p4 {e:Env} {o0 o1 o2 o3 o4:aU} {x y z:TA} {p q r:Bool} (he:dX e (srV x y z)) (c1:ko L 162 [.ptr 4 0,x.av,y.av] [o0,o1,o2,o3,o4] (.bool p)) (c2:ko L 162 [.ptr 4 0,y.av,z.av] [o0,o1,o2,o3,o4] (.bool q)) (c3:ko L 162 [.ptr 4 0,x.av,z.av] [o0,o1,o2,o3,o4] (.bool r)):
  dJ L (mX 4 ny.body) e [o0,o1,o2,o3,o4] (Sc fun e' H'=>H'=[o0,o1,o2,o3,o4]∧dX e' (srW x y z p q r)):=by
 refine gZ _ _ _ _ ?_;rw[←qU he];obtain⟨xk,xn,xs,xl⟩:=x;obtain⟨yk,yn,ys,yl⟩:=y;obtain⟨zk,zn,zs,zl⟩:=z;conv=>whnf
 refine⟨Int.le_refl 0,?_⟩;conv=>whnf
 refine⟨rfl,?_⟩;conv=>whnf
 refine⟨by decide,?_⟩;conv=>whnf
 refine⟨rfl,?_⟩;conv=>whnf
 refine⟨by decide,?_⟩;conv=>whnf
 refine⟨rfl,?_⟩;conv=>whnf
 refine⟨by decide,?_⟩;conv=>whnf
 refine⟨rfl,?_⟩;conv=>whnf
 refine⟨Int.le_refl 0,?_⟩;conv=>whnf
 refine⟨rfl,?_⟩;conv=>whnf
 refine⟨by decide,?_⟩;conv=>whnf
 refine⟨rfl,?_⟩;conv=>whnf
 refine c1.to ?_;conv=>whnf
 refine⟨⟨rfl,rfl,rfl,rfl,trivial⟩,?_⟩;conv=>whnf
 refine c2.to ?_;conv=>whnf
 refine⟨⟨rfl,rfl,trivial⟩,?_⟩;conv=>whnf
 refine c3.to ?_;conv=>whnf
 exact⟨rfl,rfl,rfl,rfl,rfl,rfl,trivial⟩
theorem sr_p5 {e:Env} {o0 o1 o2 o3 o4:aU} {x y z:TA} {p q r:Bool} (he:dX e (srW x y z p q r)):
  dJ L (mX 5 ny.body) e [o0,o1,o2,o3,o4] (Sc fun e' H'=>H'=[o0,o1,o2,o3,o4,srO x z]∧dX e' (srX x y z p q r)):=by
 refine gZ _ _ _ _ ?_;rw[←qU he];obtain⟨xk,xn,xs,xl⟩:=x;obtain⟨yk,yn,ys,yl⟩:=y;obtain⟨zk,zn,zs,zl⟩:=z;conv=>whnf
 refine⟨Int.le_refl 0,?_⟩;conv=>whnf
 refine⟨rfl,?_⟩;conv=>whnf
 refine⟨by decide,?_⟩;conv=>whnf
 refine⟨rfl,?_⟩;conv=>whnf
 exact⟨rfl,rfl,rfl,rfl,rfl,rfl,rfl,trivial⟩
theorem sr_p6 {e:Env} {o0 o1 o2 o3 o4 o5:aU} {x y z:TA} {p q r f yx:Bool} (he:dX e (srX x y z p q r)) (tr:p=true→q=true→r=true) (lo:p=true→f=true) (eq:p=true→yx=true→r=q)
  (c1:ko L 169 [.ptr 4 0,x.av,x.av] [o0,o1,o2,o3,o4,o5] (.bool true)) (c2:ko L 163 [.ptr 4 0,x.av,y.av] [o0,o1,o2,o3,o4,o5] (.bool f)) (c3:ko L 169 [.ptr 4 0,x.av,y.av] [o0,o1,o2,o3,o4,o5] (.bool (p&&yx))) (c4:ko L 162 [.ptr 4 0,y.av,z.av] [o0,o1,o2,o3,o4,o5] (.bool q)):
  dJ L (fstS (mX 6 ny.body)) e [o0,o1,o2,o3,o4,o5] (Sc fun e' H'=>H'=[o0,o1,o2,o3,o4,o5]∧dX e' ((120,.bool false)::srX x y z p q r)):=by
 refine gZ _ _ _ _ ?_;rw[←qU he];obtain⟨xk,xn,xs,xl⟩:=x;obtain⟨yk,yn,ys,yl⟩:=y;obtain⟨zk,zn,zs,zl⟩:=z;conv=>whnf
 refine⟨Int.le_refl 0,?_⟩;conv=>whnf
 refine⟨rfl,?_⟩;conv=>whnf
 refine⟨Int.le_refl 0,?_⟩;conv=>whnf
 refine⟨rfl,?_⟩;conv=>whnf
 refine c1.use ?_;cases p
 ·conv=>whnf
  refine⟨Int.le_refl 0,?_⟩;conv=>whnf
  refine⟨rfl,?_⟩;conv=>whnf
  refine⟨by decide,?_⟩;conv=>whnf
  refine⟨rfl,?_⟩;conv=>whnf
  refine c3.use ?_;conv=>whnf
  exact⟨rfl,rfl,rfl,rfl,rfl,rfl,rfl,rfl,trivial⟩
 ·have lo:=lo rfl
  subst lo;have tr:=tr rfl;have eq:=eq rfl;cases q
  ·cases yx
   ·conv=>whnf
    refine⟨Int.le_refl 0,?_⟩;conv=>whnf
    refine⟨rfl,?_⟩;conv=>whnf
    refine⟨by decide,?_⟩;conv=>whnf
    refine⟨rfl,?_⟩;conv=>whnf
    refine c2.use ?_;conv=>whnf
    refine⟨Int.le_refl 0,?_⟩;conv=>whnf
    refine⟨rfl,?_⟩;conv=>whnf
    refine⟨by decide,?_⟩;conv=>whnf
    refine⟨rfl,?_⟩;conv=>whnf
    refine c3.use ?_;conv=>whnf
    exact⟨rfl,rfl,rfl,rfl,rfl,rfl,rfl,rfl,trivial⟩
   ·have eq:=eq rfl
    subst eq;conv=>whnf
    refine⟨Int.le_refl 0,?_⟩;conv=>whnf
    refine⟨rfl,?_⟩;conv=>whnf
    refine⟨by decide,?_⟩;conv=>whnf
    refine⟨rfl,?_⟩;conv=>whnf
    refine c2.use ?_;conv=>whnf
    refine⟨Int.le_refl 0,?_⟩;conv=>whnf
    refine⟨rfl,?_⟩;conv=>whnf
    refine⟨by decide,?_⟩;conv=>whnf
    refine⟨rfl,?_⟩;conv=>whnf
    refine c3.use ?_;conv=>whnf
    refine⟨by decide,?_⟩;conv=>whnf
    refine⟨rfl,?_⟩;conv=>whnf
    refine⟨by decide,?_⟩;conv=>whnf
    refine⟨rfl,?_⟩;conv=>whnf
    refine c4.use ?_;conv=>whnf
    exact⟨rfl,rfl,rfl,rfl,rfl,rfl,rfl,rfl,trivial⟩
  ·have tr:=tr rfl
   subst tr;cases yx
   ·conv=>whnf
    refine⟨Int.le_refl 0,?_⟩;conv=>whnf
    refine⟨rfl,?_⟩;conv=>whnf
    refine⟨by decide,?_⟩;conv=>whnf
    refine⟨rfl,?_⟩;conv=>whnf
    refine c2.use ?_;conv=>whnf
    refine⟨Int.le_refl 0,?_⟩;conv=>whnf
    refine⟨rfl,?_⟩;conv=>whnf
    refine⟨by decide,?_⟩;conv=>whnf
    refine⟨rfl,?_⟩;conv=>whnf
    refine c3.use ?_;conv=>whnf
    exact⟨rfl,rfl,rfl,rfl,rfl,rfl,rfl,rfl,trivial⟩
   ·conv=>whnf
    refine⟨Int.le_refl 0,?_⟩;conv=>whnf
    refine⟨rfl,?_⟩;conv=>whnf
    refine⟨by decide,?_⟩;conv=>whnf
    refine⟨rfl,?_⟩;conv=>whnf
    refine c2.use ?_;conv=>whnf
    refine⟨Int.le_refl 0,?_⟩;conv=>whnf
    refine⟨rfl,?_⟩;conv=>whnf
    refine⟨by decide,?_⟩;conv=>whnf
    refine⟨rfl,?_⟩;conv=>whnf
    refine c3.use ?_;conv=>whnf
    refine⟨by decide,?_⟩;conv=>whnf
    refine⟨rfl,?_⟩;conv=>whnf
    refine⟨by decide,?_⟩;conv=>whnf
    refine⟨rfl,?_⟩;conv=>whnf
    refine c4.use ?_;conv=>whnf
    exact⟨rfl,rfl,rfl,rfl,rfl,rfl,rfl,rfl,trivial⟩
theorem sr_p7 {e:Env} {o0 o1 o2 o3 o4:aU} {x y z:TA} {p q r:Bool} {s:Bytes} (he:dX e (srX x y z p q r)) (c1:ko L 145 [.ptr 4 0,srU x z] [o0,o1,o2,o3,o4,srO x z] (.str s)):
  dJ L (mX 7 ny.body) e [o0,o1,o2,o3,o4,srO x z] (rZ (fun e' H'=>(s==[63])=false∧H'=[o0,o1,o2,o3,o4,srO x z]∧dX e' (srX x y z p q r)) (srQ L)):=by
 refine gZ _ _ _ _ ?_;rw[←qU he];conv=>whnf
 refine c1.to ?_;conv=>whnf
 cases hs:(s==[63])
 ·conv=>whnf
  exact⟨rfl,rfl,rfl,rfl,rfl,rfl,rfl,rfl,trivial⟩
 ·conv=>whnf
  exact aH (Weak.refl _)
theorem sr_p8 {e:Env} {o0 o1 o2 o3 o4:aU} {x y z:TA} {p q r uy zy:Bool} (he:dX e (srX x y z p q r)) (un:uy=(p&&zy))
  (c1:ko L 162 [.ptr 4 0,x.av,srU x z] [o0,o1,o2,o3,o4,srO x z] (.bool true)) (c2:ko L 162 [.ptr 4 0,z.av,srU x z] [o0,o1,o2,o3,o4,srO x z] (.bool true)) (c3:ko L 162 [.ptr 4 0,srU x z,y.av] [o0,o1,o2,o3,o4,srO x z] (.bool uy)) (c4:ko L 162 [.ptr 4 0,z.av,y.av] [o0,o1,o2,o3,o4,srO x z] (.bool zy)):
  dJ L (mX 8 ny.body) e [o0,o1,o2,o3,o4,srO x z] (Sc fun e' _=>e' 8=.bool true):=by
 refine gZ _ _ _ _ ?_;rw[←qU he];obtain⟨xk,xn,xs,xl⟩:=x;obtain⟨yk,yn,ys,yl⟩:=y;obtain⟨zk,zn,zs,zl⟩:=z;subst un;conv=>whnf
 refine⟨Int.le_refl 0,?_⟩;conv=>whnf
 refine⟨rfl,?_⟩;conv=>whnf
 refine c1.use ?_;conv=>whnf
 refine⟨by decide,?_⟩;conv=>whnf
 refine⟨rfl,?_⟩;conv=>whnf
 refine c2.use ?_;conv=>whnf
 refine⟨by decide,?_⟩;conv=>whnf
 refine⟨rfl,?_⟩;conv=>whnf
 refine c3.use ?_;cases p
 ·conv=>whnf
  rfl
 ·cases zy
  all_goals
   conv=>whnf
   refine⟨by decide,?_⟩;conv=>whnf
   refine⟨rfl,?_⟩;conv=>whnf
   refine⟨by decide,?_⟩;conv=>whnf
   refine⟨rfl,?_⟩;conv=>whnf
   refine c4.use ?_;conv=>whnf
   rfl
theorem RX {e:Env} {H:Heap} (he:e 8=.bool true):dJ L .ret e H (srQ L):=by
 refine gZ _ _ _ _ ?_;rw[←qU (show dX e [(8,.bool true)]from⟨he,trivial⟩)];conv=>whnf
 exact aH (Weak.refl _)
theorem PN {D:List (Bytes×TA)} {t:TA} (hD:∀p∈D,jQ p.1∧GT p.2∧wtT p.2≤2^19) (hz:iY D≤60) (gt:GT t) (hw:wtT t≤2^22):∃B,(∀z,Spr (iL D) (aN t) z→z∈B)∧wtL B≤2^30-100:=by
 obtain⟨n1,n2⟩:=J5 D
 have hb:∀p∈iL D,NT p.2∧wtT p.2≤2^19:=fun p hp=>by
  obtain⟨q,hq,rfl⟩:=Ae hp;have:=jL q.2;exact⟨kN (hD q hq).2.1,Nat.le_trans this (hD q hq).2.2⟩
 have hsum:((iL D).map fun p=>szT p.2).sum≤60:=Nat.le_trans n2 hz;refine⟨dV::(dU (aN t) ++(iL D).flatMap fun p=>gU p.2),fun z hz=>?_,?_⟩
 ·rcases RI (fun p hp=>(hb p hp).1) hz (kN gt)with h|h|h
  ·subst h;simp
  ·simp[h]
  ·exact List.mem_cons_of_mem _ (List.mem_append_right _ h)
 ·have h1:=Oy (m:=2^19) (fun p hp=>(hb p hp).2) hsum
  have h2:=yG (aN t);have h3:=jL t;have h4:wtT dV=16:=rfl;rw[wtL,tF];omega
set_option maxHeartbeats 1000000 in
theorem E8 (F:Vi T) (src a b c:Bytes):Pure T.L 136 [.str src,.str a,.str b,.str c] (.bool true):=by
 have hA:=Lm F.toNw;rcases Nat.lt_or_ge 600 src.length with hs|hs
 ·refine Pure.run (gq.at ⟨.str _,.str _,.str _,.str _,trivial⟩) (.bool _) (aG F.Tg (by simp[ny]) ?_)
  have hM:=Nu F.toEL src [a,b,c] hs (by simp);conv=>whnf
  refine hA.to ?_;conv=>whnf
  refine(hM.weak (args:=[.str src,.lst [.str a,.str b,.str c] _]) ⟨Weak.refl _,Weak.tok _ _,trivial⟩).to ?_;conv=>whnf
  exact aH (Weak.refl _)
 have hM:=Vm F.toEL src [a,b,c] hs (by simp) [];have hD:=tK src hs;have hT:=fun t h=>yS (l:=[a,b,c]) (t:=t) h
 have hL:[a,b,c].all qZ=true→∃x y z,iJ [a,b,c]=[x,y,z]:=fun h=>by
  unfold iJ;rw[if_pos h];exact⟨_,_,_,rfl⟩
 generalize gL src=D at hM hD;generalize iJ [a,b,c]=ts at hM hT hL;refine Pure.run (gq.at ⟨.str _,.str _,.str _,.str _,trivial⟩) (.bool _) (AU F.Tg (by simp[ny]) ?_);show dJ T.L ny.body (fun i=>[au.str src,.str a,.str b,.str c].getD i .undef) [] _;refine Fw (P:=fun e H=>∃en o0 o1 x y z,lC (iL D) en∧ts=[x,y,z]∧D.length≤8∧iY D≤60∧sumOf ts≤40∧H=[o0,o1,.map (dh en.by_ 0) en.by_.length,.map (gI en.empty 0) en.empty.length,.cells [.map 2,.map 3] 234]∧dX e (srV x y z)) 4 _ _ _ (gZ _ _ _ _ ?_) fun e1 H1 ⟨en,o0,o1,x,y,z,hok,ets,h8,hz,hsz,eH,he⟩=>?_
 ·conv=>whnf
  refine hA.to ?_;conv=>whnf
  refine(hM.Fa (args:=[.str src,.lst [.str a,.str b,.str c] _]) ⟨Weak.refl _,Weak.tok _ _,trivial⟩).mono fun r H' ⟨en,o0,o1,hok,e2,h⟩=>?_
  subst e2;rcases h with⟨hp,h8,hz,e1⟩|e1
  ·subst e1
   obtain⟨x,y,z,ets⟩:=hL hp;subst ets;conv=>whnf
   by_cases hsz:sumOf [x,y,z]≤40
   case neg=>
    rw[decide_eq_false hsz];conv=>whnf
    exact aH (Weak.refl _)
   rw[decide_eq_true hsz];conv=>whnf
   exact⟨en,o0,o1,x,y,z,hok,rfl,h8,hz,hsz,rfl,rfl,rfl,trivial⟩
  ·subst e1
   conv=>whnf
   exact aH (Weak.refl _)
 subst ets eH;have gx:=hT x (by simp);have gy:=hT y (by simp);have gz:=hT z (by simp);have sxy:szT x+(szT y+szT z)≤40:=by simpa[sumOf]using hsz
 have d1:wtT (uT x z)=wtT x+wtT z+32:=by unfold uT;rw[wtT,wtL,wtL,wtL];simp;omega
 have d2:szT (uT x z)=szT x+szT z+1:=by unfold uT;rw[rJ,iF,iF];simp[szL,AR]
 obtain⟨C,W,hC,_⟩:=ask_w (ts:=[x,y,z,uT x z]) hD h8 hz (fun t ht=>by
  simp only[List.mem_cons,List.not_mem_nil,or_false]at ht;rcases ht with rfl|rfl|rfl|rfl
  ·exact⟨gx.1,by omega,by omega⟩
  ·exact⟨gy.1,by omega,by omega⟩
  ·exact⟨gz.1,by omega,by omega⟩
  ·exact⟨Yq gx.1 gz.1,by omega,by omega⟩) (by simp) hok
 have cx:=hC x (by simp);have cy:=hC y (by simp);have cz:=hC z (by simp);have cu:=hC (uT x z) (by simp);obtain⟨B,hB,hw⟩:=PN hD hz (Yq gx.1 gz.1) (by omega);have hS:=W.VD F.towm F.QF cu hB hw;have sr:=sr_of W cx cy cz cu;have l2:∀p q:TA,∀w∈[p.av,q.av],Low 0 w:=fun p q=>gq.at ⟨aT 0 p,aT 0 q,trivial⟩
 have hE:∀J:Heap,GI en ([o0,o1,.map (dh en.by_ 0) en.by_.length,.map (gI en.empty 0) en.empty.length,.cells [.map 2,.map 3] 234] ++J) 2:=fun J=>⟨rfl,rfl,rfl⟩
 have sub:=fun{p q:TA} (hp:GC' C p) (hq:GC' C q) J=>(W.YD F.tonk hp hq).Jo (l2 p q) (.bool _) (hE J)
 have hu:Weak T.L (srU x z) (uT x z).av:=Weak.agg ⟨Weak.refl _,Weak.refl _,Weak.tok _ _,Weak.tok _ _,trivial⟩;show dJ T.L (.seq (mX 4 ny.body) (.seq (mX 5 ny.body) (.seq (.seq (fstS (mX 6 ny.body)) (sndS (mX 6 ny.body))) (.seq (mX 7 ny.body) (.seq (mX 8 ny.body) .ret))))) e1 _ (srQ T.L);refine yN (sr_p4 he (sub cx cy []) (sub cy cz []) (sub cx cz [])) fun e2 H2 ⟨eH2,he2⟩=>?_
 subst eH2;refine yN (sr_p5 he2) fun e3 H3 ⟨eH3,he3⟩=>?_
 subst eH3
 refine yN (P:=fun e' H'=>H'=[o0,o1,.map (dh en.by_ 0) en.by_.length,.map (gI en.empty 0) en.empty.length,.cells [.map 2,.map 3] 234,srO x z]∧dX e' (srX x y z (uU C en x y) (uU C en y z) (uU C en x z))) (yN (sr_p6 he3 sr.tr sr.lo sr.eq
  (by have:=(W.TG F.tonk cx cx).Jo (l2 x x) (.bool _) (hE [srO x z]);rw[sr.re]at this;exact this)
  ((W.fitE F.tonk cx cy).Jo (l2 x y) (.bool _) (hE [srO x z])) ((W.TG F.tonk cx cy).Jo (l2 x y) (.bool _) (hE [srO x z])) (sub cy cz [srO x z])) fun e4 H4 ⟨eH4,h120,he4⟩=>?_) fun e5 H5 ⟨eH5,he5⟩=>?_
 ·subst eH4
  refine gZ _ _ _ _ ?_;have hid:fJ e4 [(120,.bool false)]=e4:=qU (show dX e4 [(120,.bool false)]from⟨h120,trivial⟩);rw[←hid];conv=>whnf
  show _∧dX (fJ e4 [(120,.bool false)]) _;rw[hid];exact⟨rfl,he4⟩
 subst eH5;have h7:=sr_p7 he5 (((hS.Jo (dF (aT 0 _)) (.str _) (hE [srO x z]))).weak (args:=[.ptr 4 0,srU x z]) ⟨Weak.refl _,hu,trivial⟩);show dJ T.L (mX 7 ny.body) e5 _ (rZ (fun e' H'=>dJ T.L (.seq (mX 8 ny.body) .ret) e' H' (srQ T.L)) (srQ T.L));refine kD (fun k e6 H6 hk=>?_) h7
 cases k with
 |normal=>
  obtain⟨hne,eH6,he6⟩:=hk;subst eH6;obtain⟨u1,u2,u3⟩:=sr.un hne;have w2:∀(p:TA) {J:Heap} {r:au},ko T.L 162 [.ptr 4 0,p.av,(uT x z).av] J r→ko T.L 162 [.ptr 4 0,p.av,srU x z] J r:=fun p {J r} h=>h.weak ⟨Weak.refl _,Weak.refl _,hu,trivial⟩
  have w3:∀(p:TA) {J:Heap} {r:au},ko T.L 162 [.ptr 4 0,(uT x z).av,p.av] J r→ko T.L 162 [.ptr 4 0,srU x z,p.av] J r:=fun p {J r} h=>h.weak ⟨Weak.refl _,hu,Weak.refl _,trivial⟩
  refine yN (sr_p8 he6 u3 (w2 x (by have:=sub cx cu [srO x z];rw[u1]at this;exact this)) (w2 z (by have:=sub cz cu [srO x z];rw[u2]at this;exact this)) (w3 y (sub cu cy [srO x z])) (sub cz cy [srO x z])) fun e7 H7 h8=>RX h8
 |_=>exact hk
end Go.Ag
/- Package types: the library's CompactFunc of keyed types, walked. -/
namespace Go.Ag
open Go
variable {T : Tab} {L : Lnk}
def zkv :au:=.agg [.int .i64 0,.str [],.lst [] .nil,.lst [] .nil,.str []]
structure DStep (xs A:List (TA×Bytes)) (p m:Nat):Prop where
 len:A.length=xs.length
 front:A.take m=fZ (xs.take p)
 YW:m=(fZ (xs.take p)).length
 pos:1≤p
 lt:m<p
 back:A.drop (p-1)=xs.drop (p-1)
theorem DStep.at {xs A:List (TA×Bytes)} {p m:Nat} (h:DStep xs A p m) {j:Nat} (h1:p-1≤j):A[j]?=xs[j]?:=by
 have e1:A[j]?=(A.drop (p-1))[j-(p-1)]?:=by rw[List.getElem?_drop];congr 1;omega
 have e2:xs[j]?=(xs.drop (p-1))[j-(p-1)]?:=by rw[List.getElem?_drop];congr 1;omega
 rw[e1,e2,h.back]
theorem DStep.skip {xs A:List (TA×Bytes)} {p m:Nat} (h:DStep xs A p m) (hp:p<xs.length) (he:(xs[p].2==(xs[p-1]'(by omega)).2)=true):DStep xs A (p+1) m:=by
 have h1:=wP xs p h.pos hp;rw[if_pos he,List.append_nil]at h1;refine⟨h.len,by rw[h1];exact h.front,by rw[h1];exact h.YW,by omega,by have:=h.lt;omega,?_⟩;have e1:A.drop p=(A.drop (p-1)).drop 1:=by rw[List.drop_drop];congr 1;have:=h.pos;omega
 have e2:xs.drop p=(xs.drop (p-1)).drop 1:=by rw[List.drop_drop];congr 1;have:=h.pos;omega
 show A.drop p=xs.drop p;rw[e1,e2,h.back]
theorem DStep.take {xs A:List (TA×Bytes)} {p m:Nat} (h:DStep xs A p m) (hp:p<xs.length) (he:(xs[p].2==(xs[p-1]'(by omega)).2)=false):DStep xs (A.take m ++[xs[p]] ++A.drop (m+1)) (p+1) (m+1):=by
 have h1:=wP xs p h.pos hp;rw[if_neg (by rw[he];simp)]at h1;have hlt:=h.lt;have hlen:=h.len;have hml:(A.take m).length=m:=by rw[List.length_take];omega
 have e0:(A.take m ++[xs[p]]).length=m+1:=by simp[hml]
 refine⟨by simp;omega,?_,by rw[h1,List.length_append,←h.YW];rfl,by omega,by omega,?_⟩
 ·rw[List.take_append_of_le_length (by omega),List.take_of_length_le (by omega),h1,h.front]
 ·show List.drop p _=List.drop p xs
  rw[List.drop_append,List.drop_of_length_le (by omega:(A.take m ++[xs[p]]).length≤p),List.nil_append,e0,List.drop_drop];have e1:A.drop p=(A.drop (p-1)).drop 1:=by rw[List.drop_drop];congr 1;have:=h.pos;omega
  have e2:xs.drop p=(xs.drop (p-1)).drop 1:=by rw[List.drop_drop];congr 1;have:=h.pos;omega
  rw[show m+1+(p-(m+1))=p from by omega,e1,e2,h.back]
theorem Wm (n:Nat):Low n zkv:=.agg _ (gq.at ⟨.int _ _,.str _,.lst _ _ trivial (by simp),.lst _ _ trivial (by simp),.str _,trivial⟩)
theorem YP (u:TA×Bytes):okB 5 (au.agg (kv u).cells)=true:=by
 obtain⟨⟨k,nm,ns,l⟩,s⟩:=u;rfl
theorem Zg {xs A:List (TA×Bytes)} {n t m r:Nat} (hr:m+(r+1)=n) (hA:A.length=n) (hf:A.take m=fZ xs):
  IG 5 (.agg [.int .i64 0,.str [],.lst [] .nil,.lst [] .nil,.str []]) [.arr n (kvs A) t] (.vec 0 n 5 (0+m) (r+1))=some [.arr n (kvs (fZ xs) ++List.replicate (r+1) zkv) t]:=by
 rw[Nat.zero_add,IG];simp only[List.getElem?_cons_zero];rw[if_pos ⟨trivial,trivial,by rw[jI];omega,by rw[List.all_eq_true];exact fun y hy=>by simpa using vL A y hy⟩];have e1:(kvs A).take m=kvs (fZ xs):=by rw[←hf];simp[kvs,List.map_take]
 have e2:(kvs A).drop (m+(r+1))=[]:=List.drop_of_length_le (by rw[jI];omega);rw[e1,e2,List.append_nil];rfl
theorem sub1 {k:Nat} (h1:1≤k) (h:k<9223372036854775808):IntKind.i64.wrap ((k:Int)-1)=((k-1:Nat):Int):=by
 rw[IntWalk.i64_in _ (by omega)];omega
theorem IC (F:zO T) (xs:List (TA×Bytes)) (n t:Nat) (hn:n=xs.length) (hne:xs≠[]) (hl:n≤2^40):
  aC T.L 255 [.vec 0 n 5 0 n,.fn (.func 256) [] []] [.arr n (kvs xs) t] fun r H'=>r=.ret (.vec 0 n 5 0 (fZ xs).length)∧∃rest J:List _,(∀x∈rest,Low 0 x∧x.cells.length=5)∧(fZ xs).length+rest.length=n∧H'=[.arr n (kvs (fZ xs) ++rest) t] ++J:=by
 have heq:=TH F.Iq;have hpos:0<xs.length:=List.length_pos_iff.2 hne;have hk5:=vL xs;refine aG F.Td (by simp[OU]) ?_;conv=>whnf
 have e2:((n:Int)<2)=(n<2):=by apply propext;omega
 cases hn2:decide ((n:Int)<2)
 ·have hn2':2≤n:=by simp at hn2;omega
  conv=>whnf
  intro I hI hG
  have key:∀(d i:Nat) (e:Env),n-i=d→1≤i→i≤n→fZ (xs.take i)=xs.take i→I (fJ e [(0,.vec 0 n 5 0 n),(1,.fn (.func 256) [] []),(5,.int .i64 i)]) [.arr n (kvs xs) t]:=by
   intro d
   induction d with
   |zero=>
    intro i e hd h1 hi M0;apply hI;conv=>whnf
    rw[bU (by omega)];conv=>whnf
    have:xs.take i=xs:=List.take_of_length_le (by omega);rw[this]at M0;refine⟨?_,[],[],(by simp),?_,?_⟩
    ·rw[M0,←hn];rfl
    ·rw[M0,hn];rfl
    ·rw[M0,List.append_nil,List.append_nil]
   |succ d ihd=>
    intro i e hd h1 hi M0;have hin:i<n:=by omega
    have hix:i<xs.length:=by omega
    apply hI;conv=>whnf
    rw[dz hin];conv=>whnf
    refine⟨⟨Int.natCast_nonneg _,by omega,rfl⟩,?_⟩;conv=>whnf
    rw[sub1 h1 (by omega)];refine⟨⟨Int.natCast_nonneg _,by omega,rfl⟩,?_⟩;conv=>whnf
    have ha:(0+((i:Nat):Int).toNat)*5=i*5:=by simp
    have hb:(0+((i-1:Nat):Int).toNat)*5=(i-1)*5:=by simp
    rw[ha,hb];have hgi:(kvs xs)[i]?=some (kv xs[i]):=by simp[kvs,List.getElem?_map,List.getElem?_eq_getElem hix]
    have hgj:(kvs xs)[i-1]?=some (kv (xs[i-1]'(by omega))):=by simp[kvs,List.getElem?_map,List.getElem?_eq_getElem (show i-1<xs.length by omega)]
    have hsn:(xs[i].2==(xs[i-1]'(by omega)).2)=false→fZ (xs.take (i+1))=xs.take (i+1):=fun he=>by
     have h2:=wP xs i h1 hix;rw[if_neg (by rw[he];simp),M0]at h2;rw[h2,List.take_succ_eq_append_getElem hix]
    have hq:=heq xs[i] (xs[i-1]'(by omega))
    have hsk:(xs[i].2==(xs[i-1]'(by omega)).2)=true→DStep xs xs (i+1) i:=fun he=>by
     have h2:=wP xs i h1 hix;rw[if_pos he,List.append_nil,M0]at h2;exact⟨rfl,h2.symm,by rw[h2,List.length_take];omega,by omega,by omega,rfl⟩
    generalize xs[i]=u at hgi hsn hq hsk;generalize xs[i-1]'(by omega)=w at hgj hsn hq hsk;refine nH (wI rfl hk5 hgi) ?_;conv=>whnf
    refine nH (wI rfl hk5 hgj) ?_;conv=>whnf
    refine hq.to ?_;conv=>whnf
    have hi1:i+1<9223372036854775808:=by omega
    cases huw:(u.2==w.2)
    ·conv=>whnf
     exact hG.keep [(0,.vec 0 n 5 0 n),(1,.fn (.func 256) [] []),(5,.int .i64 (i+1:Nat))] [.arr n (kvs xs) t] (Nat.le_refl 1) rfl ⟨rfl,rfl,add1 hi1,trivial⟩
      ⟨.vec _ _ _ _ _ (by decide:0<1),.fn _ _ _ fK fK,.int _ _,trivial⟩ ⟨kV 1 xs,trivial⟩ (ihd (i+1) _ (by omega) (by omega) (by omega) (hsn huw))
    ·have hst:=hsk huw
     clear hsk hsn hq ihd hgi hgj ha hb huw;conv=>whnf
     refine⟨⟨by omega,by omega,by omega,rfl⟩,?_⟩;conv=>whnf
     rw[Int.toNat_natCast];intro J hJ hGJ
     have keyI:∀(d k m:Nat) (A:List (TA×Bytes)) (e:Env),n-(i+k)=d→1≤k→i+k≤n→DStep xs A (i+k) m→J (fJ e [(0,.vec 0 n 5 0 n),(1,.fn (.func 256) [] []),(5,.int .i64 m),(6,.vec 0 n 5 i (n-i)),(7,.int .i64 k)]) [.arr n (kvs A) t]:=by
      intro d
      induction d with
      |zero=>
       intro k m A e hd hk1 hk hst;apply hJ;conv=>whnf
       rw[bU (by omega)];conv=>whnf
       have hmn:m<n:=by have:=hst.lt;omega
       obtain⟨r,hr⟩:∃r,n-m=r+1:=⟨n-m-1,by omega⟩;refine⟨⟨by omega,by omega,by omega,rfl⟩,?_⟩;conv=>whnf
       rw[Int.toNat_natCast,hr];conv=>whnf
       have hend:i+k=n:=by omega
       rw[hend]at hst;have hxt:xs.take n=xs:=List.take_of_length_le (by omega);have hfr:=hst.front;have hm:=hst.YW;rw[hxt]at hfr hm;rw[Zg (by omega) (by rw[hst.len];omega) hfr];conv=>whnf
       refine⟨⟨by omega,by omega,by omega,rfl⟩,?_⟩;conv=>whnf
       refine⟨by rw[←hm];rfl,List.replicate (r+1) zkv,[],fun x hx=>?_,by rw[List.length_replicate,←hm];omega,by rw[List.append_nil]⟩;rw[List.eq_of_mem_replicate hx];exact⟨Wm 0,rfl⟩
      |succ d ihd=>
       intro k m A e hd hk1 hk hst;apply hJ;conv=>whnf
       rw[dz (by omega)];conv=>whnf
       have hpx:i+k<xs.length:=by omega
       have hA5:=vL A;have hAl:=hst.len;have hlt:=hst.lt;refine⟨⟨Int.natCast_nonneg _,by omega,rfl⟩,?_⟩;conv=>whnf
       rw[sub1 hk1 (by omega)];refine⟨⟨Int.natCast_nonneg _,by omega,rfl⟩,?_⟩;conv=>whnf
       have ha:(i+((k:Nat):Int).toNat)*5=(i+k)*5:=by simp
       have hb:(i+((k-1:Nat):Int).toNat)*5=(i+k-1)*5:=by rw[Int.toNat_natCast];congr 1;omega
       rw[ha,hb];have hgi:(kvs A)[i+k]?=some (kv xs[i+k]):=by simp[kvs,List.getElem?_map,hst.at (j:=i+k) (by omega),List.getElem?_eq_getElem hpx]
       have hgj:(kvs A)[i+k-1]?=some (kv (xs[i+k-1]'(by omega))):=by simp[kvs,List.getElem?_map,hst.at (j:=i+k-1) (by omega),List.getElem?_eq_getElem (show i+k-1<xs.length by omega)]
       have hq:=heq xs[i+k] (xs[i+k-1]'(by omega));have Ko:=hst.skip hpx;have htake:=hst.take hpx;generalize xs[i+k]=u at hgi hq Ko htake;generalize xs[i+k-1]'(by omega)=w at hgj hq Ko htake;refine nH (wI rfl hA5 hgi) ?_;conv=>whnf
       refine nH (wI rfl hA5 hgj) ?_;conv=>whnf
       refine hq.to ?_;conv=>whnf
       have hk1':k+1<9223372036854775808:=by omega
       have hm1':m+1<9223372036854775808:=by omega
       cases huw:(u.2==w.2)
       ·have hst':=htake huw
        conv=>whnf
        refine⟨⟨Int.natCast_nonneg _,by omega,rfl⟩,?_⟩;conv=>whnf
        rw[ha];refine nH (wI rfl hA5 hgi) ?_;conv=>whnf
        refine⟨⟨Int.natCast_nonneg _,by omega,rfl⟩,?_⟩;conv=>whnf
        rw[YP u,show(0+((m:Nat):Int).toNat)*5=m*5 from by simp,RH (H:=[.arr n (kvs A) t]) (x:=.agg (kv u).cells) (i:=m) rfl hA5 (F3 u) (by rw[jI];omega)];rw[show(kvs A).take m ++[au.agg (kv u).cells] ++(kvs A).drop (m+1)=kvs (A.take m ++[u] ++A.drop (m+1))from by simp[kvs,List.map_take,List.map_drop];rfl];generalize A.take m ++[u] ++A.drop (m+1)=A' at hst'⊢;conv=>whnf
        exact hGJ.keep [(0,.vec 0 n 5 0 n),(1,.fn (.func 256) [] []),(5,.int .i64 (m+1:Nat)),(6,.vec 0 n 5 i (n-i)),(7,.int .i64 (k+1:Nat))] [.arr n (kvs A') t] (Nat.le_refl 1) rfl ⟨rfl,rfl,add1 hm1',rfl,add1 hk1',trivial⟩
         ⟨.vec _ _ _ _ _ (by decide:0<1),.fn _ _ _ fK fK,.int _ _,.vec _ _ _ _ _ (by decide:0<1),.int _ _,trivial⟩ ⟨kV 1 A',trivial⟩ (ihd (k+1) (m+1) A' _ (by omega) (by omega) (by omega) hst')
       ·have hst':=Ko huw
        conv=>whnf
        exact hGJ.keep [(0,.vec 0 n 5 0 n),(1,.fn (.func 256) [] []),(5,.int .i64 m),(6,.vec 0 n 5 i (n-i)),(7,.int .i64 (k+1:Nat))] [.arr n (kvs A) t] (Nat.le_refl 1) rfl ⟨rfl,rfl,rfl,rfl,add1 hk1',trivial⟩
         ⟨.vec _ _ _ _ _ (by decide:0<1),.fn _ _ _ fK fK,.int _ _,.vec _ _ _ _ _ (by decide:0<1),.int _ _,trivial⟩ ⟨kV 1 A,trivial⟩ (ihd (k+1) m A _ (by omega) (by omega) (by omega) hst')
     exact inv_of [(0,.vec 0 n 5 0 n),(1,.fn (.func 256) [] []),(5,.int .i64 i),(6,.vec 0 n 5 i (n-i)),(7,.int .i64 (1:Nat))] ⟨rfl,rfl,rfl,by rw[Nat.zero_add]<;>rfl,rfl,trivial⟩ (keyI _ 1 i xs _ rfl (Nat.le_refl 1) (by omega) hst)
  exact inv_of [(0,.vec 0 n 5 0 n),(1,.fn (.func 256) [] []),(5,.int .i64 (1:Nat))] ⟨rfl,rfl,rfl,trivial⟩ (key _ 1 _ rfl (Nat.le_refl 1) (by omega) (by cases xs with
   |nil=>cases hne rfl
   |cons x l=>rfl))
 ·have hn1:n=1:=by simp at hn2;omega
  conv=>whnf
  obtain⟨x,rfl⟩:∃x,xs=[x]:=List.length_eq_one_iff.1 (by omega);refine⟨by rw[hn1];rfl,[],[],by simp,by rw[hn1];rfl,by rw[List.append_nil,List.append_nil];rfl⟩
theorem EX (F:zO T) (xs:List (TA×Bytes)) (n t:Nat) (hn:n=xs.length) (hne:xs≠[]) (hl:n≤2^40):
  aC T.L 255 [.vec 0 n 5 0 n,.fn (.func 256) [] []] [.arr n (kvs xs) t] fun r H'=>r=.ret (.vec 0 n 5 0 (fZ xs).length)∧∃rest:List _,(∀x∈rest,Low 0 x∧x.cells.length=5)∧(fZ xs).length+rest.length=n∧H'=[.arr n (kvs (fZ xs) ++rest) t]:=by
 refine(aC.gcR (Q:=fun r H'=>r=.ret (.vec 0 n 5 0 (fZ xs).length)∧∃rest:List _,(∀x∈rest,Low 0 x∧x.cells.length=5)∧(fZ xs).length+rest.length=n∧H'=[.arr n (kvs (fZ xs) ++rest) t]) ((IC F xs n t hn hne hl).mono fun r' H' ⟨e1,rest,J,hr,hlen,e2⟩=>⟨.ret (.vec 0 n 5 0 (fZ xs).length),_,[.arr n (kvs (fZ xs) ++rest) t],J,e2,by rw[e1];exact Weak.refl _,.vec _ _ _ _ _ (by decide:0<1),rfl,rfl,fun i o o' h1 h2=>by rw[h1]at h2;cases h2;exact bL.refl o,fD.at ⟨fun x hx=>?_,trivial⟩,rfl,rest,hr,hlen,rfl⟩)).mono fun r H' ⟨_,e1,q⟩=>⟨e1,q⟩
 rcases List.mem_append.1 hx with hx|hx
 ·exact kV 1 _ x hx
 ·exact(hr x hx).1.mono (Nat.zero_le 1)
theorem IE (F:zO T) (xs:List (TA×Bytes)) (n id t:Nat) (H:Heap) (hH:H[id]?=some (.arr n (kvs xs) t)) (hn:n=xs.length) (hne:xs≠[]) (hl:n≤2^40):
  aC T.L 255 [.vec id n 5 0 n,.fn (.func 256) [] []] H fun r H'=>r=.ret (.vec id n 5 0 (fZ xs).length)∧∃rest:List au,(∀x∈rest,Low 0 x∧x.cells.length=5)∧(fZ xs).length+rest.length=n∧H'=H.set id (.arr n (kvs (fZ xs) ++rest) t):=by
 have q0:iq (nameOf [id] H.length) (.arr n (kvs xs) t)=.arr n (kvs xs) t:=gN (show bI 0 (.arr n (kvs xs) t)from kV 0 xs)
 have hp:Part H [id] [.arr n (kvs xs) t]:=by
  refine⟨by simp,rfl,fun k i o hk ho=>?_⟩
  match k,hk,ho with
  |0,hk,ho=>cases hk;cases ho;rw[q0];exact hH
  |k+1,hk,ho=>cases hk
 have hf:=aC.ni (EX F xs n t hn hne hl) [id] hp (.inr fun r H' ⟨_,rest,_,_,e⟩=>by rw[e];exact Nat.le_refl 1);refine hf.mono fun r H' ⟨r1,H1',⟨e1,rest,hr,hlen,e2⟩,_,e3,e4⟩=>?_
 subst e1 e2;refine⟨e3,rest,hr,hlen,?_⟩
 have q1:iq (nameOf [id] H.length) (.arr n (kvs (fZ xs) ++rest) t)=.arr n (kvs (fZ xs) ++rest) t:=gN (show bI 0 (.arr n (kvs (fZ xs) ++rest) t)from fun x hx=>by
  rcases List.mem_append.1 hx with hx|hx
  ·exact kV 0 _ x hx
  ·exact(hr x hx).1)
 rw[e4];simp only[List.length_cons,List.length_nil,List.take_succ_cons,List.take_zero,List.drop_succ_cons,List.drop_zero,List.map_cons,List.map_nil,List.append_nil,mG];exact congrArg (H.set id) q1
theorem EY (F:zO T) (H:Heap):aC T.L 255 [.lst [] .nil,.fn (.func 256) [] []] H fun r H'=>r=.ret (.lst [] .nil)∧H'=H:=by
 have h0:Pure T.L 255 [.lst [] .nil,.fn (.func 256) [] []] (.lst [] .nil):=by
  refine Pure.run (gq.at ⟨.lst _ _ trivial (by simp),.fn _ _ _ fK fK,trivial⟩) (.lst _ _ trivial (by simp)) (aG F.Td (by simp[OU]) ?_);conv=>whnf
  exact aH (Weak.refl _)
 exact h0 H
end Go.Ag

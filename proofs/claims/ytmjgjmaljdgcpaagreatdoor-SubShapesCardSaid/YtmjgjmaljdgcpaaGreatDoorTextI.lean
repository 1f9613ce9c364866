/- Our texts, joined by a program of ours (join.py): part 9 of 9. -/
import Derived.Test.YtmjgjmaljdgcpaaGreatDoorTextH
set_option linter.unusedVariables false
/- Types asked about under a source's definitions; what the heads of a type give (package parts), in plain lists. -/
namespace Go.Ag
open Go
variable {by_ : List (Bytes × TA)} {e : dL} {C : List TA}
theorem Tz (e:dL) (t:TA):(hdE e t).Nodup:=by
 unfold hdE rz;split
 ·simp
 ·exact(xB _).imp fun h e=>by rw[e]at h;exact List.lt_irrefl _ h
theorem ask_w {D:List (Bytes×TA)} {ts:List TA} (hD:∀p∈D,jB p.1∧GT p.2∧wtT p.2≤2^19) (hl:D.length≤8) (hz:jk D≤60) (hts:∀t∈ts,GT t∧wtT t≤2^22∧szT t≤100) (hn:ts.length≤1000) (hE:lq (jA D) e):
  ∃C,iW (jA D) e C∧(∀t∈ts,GC' C t)∧∀t∈ts,wtL (hdE e t)≤2^26:=by
 obtain⟨n1,n2⟩:=SB D
 have hb:∀p∈jA D,NT p.2∧wtT p.2≤2^19:=fun p hp=>by
  obtain⟨q,hq,rfl⟩:=FT hp;have:=lI q.2;exact⟨kJ (hD q hq).2.1,Nat.le_trans this (hD q hq).2.2⟩
 have hsum:((jA D).map fun p=>szT p.2).sum≤60:=Nat.le_trans n2 hz
 have hone:∀p∈jA D,szT p.2≤60:=fun p hp=>by
  refine Nat.le_trans ?_ hsum
  have:∀{l:List (Bytes×TA)},p∈l→szT p.2≤(l.map fun p=>szT p.2).sum:=fun{l} h=>by
   induction l with
   |nil=>cases h
   |cons a l ih=>
    rw[List.map_cons,List.sum_cons];rcases List.mem_cons.1 h with rfl|h
    ·omega
    ·have:=ih h;omega
  exact this hp
 obtain⟨bs,hbs⟩:∃bs,bs=(jA D).map (·.2) ++ts.map aN:=⟨_,rfl⟩
 have hin:∀b∈bs,NT b∧wtT b≤2^30∧szT b≤100:=fun b h=>by
  rw[hbs]at h;rcases List.mem_append.1 h with h|h
  ·obtain⟨p,hp,rfl⟩:=List.mem_map.1 h
   have:=hone p hp;exact⟨(hb p hp).1,Nat.le_trans (hb p hp).2 (by decide),by omega⟩
  ·obtain⟨t,ht,rfl⟩:=List.mem_map.1 h
   obtain⟨k1,k2,k3⟩:=hts t ht;exact⟨kJ k1,Nat.le_trans (lI t) (Nat.le_trans k2 (by decide)),Nat.le_trans (Jl t) k3⟩
 have W:iW (jA D) e (bs.flatMap gZ):=Ub hE (Bj D) bs (fun p hp=>by rw[hbs];exact List.mem_append_left _ (List.mem_map.2 ⟨p,hp,rfl⟩)) (fun t ht=>(hin t ht).1) (fun t ht=>(hin t ht).2.1) (fun t ht=>(hin t ht).2.2)
  (by rw[hbs,List.length_append,List.length_map,List.length_map];omega) (by omega) hsum
 have hc:∀t∈ts,GC' (bs.flatMap gZ) t:=fun t ht=>D7 (hts t ht).1 (Nat.le_trans (hts t ht).2.1 (by decide)) (by rw[hbs];exact List.mem_append_right _ (List.mem_map.2 ⟨t,ht,rfl⟩))
 refine⟨_,W,hc,fun t ht=>?_⟩;have h1:=Yf (m:=2^19) (fun p hp=>(hb p hp).2) hsum;have h2:=Cw (aN t);have h3:=lI t;have h4:wtT jP=16:=rfl;have h5:=(hts t ht).2.1
 have h6:=EZ (B:=jP::(fq (aN t) ++(jA D).flatMap fun p=>gZ p.2)) (Tz e t) fun z hz=>by
  rcases(W.MV (hc t ht)).1 hz with h|h
  ·rw[h.2];simp
  ·rcases YV (fun p hp=>(hb p hp).1) h.2 (kJ (hts t ht).1)with h|h|h
   ·subst h;simp
   ·simp[h]
   ·exact List.mem_cons_of_mem _ (List.mem_append_right _ h)
 rw[wtL,xK]at h6;omega
end Go.Ag
/- A type and its normal form have the same heads. -/
namespace Go.Ag
open Go
variable {by_ : List (Bytes × TA)} {e : dL} {C : List TA}
theorem Dn {t:TA} (h:GT t):aN (aN t)=aN t:=iF (kJ h)
theorem Cc {t:TA} (h:GT t):hdE e (aN t)=hdE e t:=by unfold hdE;rw[Dn h]
theorem OJ {t:TA} (h:GC' C t):GC' C (aN t):=⟨(kJ h.1).gt,by have:=lI t;have:=h.2.1;omega,by rw[Dn h.1];exact h.2.2⟩
theorem le_norm {loose:Bool} {a b:TA} (ha:GC' C a) (hb:GC' C b):LE (GC' C) (hdE e) loose (aN a) (aN b)↔LE (GC' C) (hdE e) loose a b:=
  ⟨fun h=>h.congr ha hb (fun x hx=>by rw[Cc ha.1];exact hx) (fun x hx=>by rw[Cc hb.1]at hx;exact hx),
   fun h=>h.congr (OJ ha) (OJ hb) (fun x hx=>by rw[Cc ha.1]at hx;exact hx) (fun x hx=>by rw[Cc hb.1];exact hx)⟩
end Go.Ag
/- Laws of the greatest sound relation: it is transitive, goes into the loose one, and takes unions, records and functions apart. -/
namespace Go.Ag
open Go
section
variable {G : TA → Prop} {hd : TA → List TA}
end
variable {by_ : List (Bytes × TA)} {e : dL} {C : List TA}
def jE (t:TA):TA:=.mk 5 [] [[107]] [t]
def oF (s t:TA):TA:=.mk 5 [] [[106],[107]] [s,t]
def jh (s t:TA):TA:=.mk 6 [] [] [s,t]
theorem g_j :jB [106]:=⟨by decide,by decide,by decide,by decide,by decide⟩
theorem g_k :jB [107]:=⟨by decide,by decide,by decide,by decide,by decide⟩
theorem Ip (t:TA):(jE t).kind≠7∧(jE t).kind≠8:=⟨by simp[jE,TA.kind],by simp[jE,TA.kind]⟩
theorem S9 (s t:TA):(oF s t).kind≠7∧(oF s t).kind≠8:=⟨by simp[oF,TA.kind],by simp[oF,TA.kind]⟩
theorem Ta (s t:TA):(jh s t).kind≠7∧(jh s t).kind≠8:=⟨by simp[jh,TA.kind],by simp[jh,TA.kind]⟩
theorem OI {t:TA} (h:GT t):GT (jE t):=.rcd _ _ (by decide) rfl (fun x hx=>by rw[List.mem_singleton]at hx;subst hx;exact g_k) fun x hx=>by rw[List.mem_singleton]at hx;subst hx;exact h
theorem X8 {s t:TA} (hs:GT s) (h:GT t):GT (oF s t):=.rcd _ _ (by decide) rfl (fun x hx=>by
 rcases List.mem_cons.1 hx with rfl|hx
 ·exact g_j
 ·rw[List.mem_singleton]at hx;subst hx;exact g_k) (IB hs h)
theorem IC {s t:TA} (hs:GT s) (h:GT t):GT (jh s t):=.fn _ _ hs h
theorem wB (t:TA):aN (jE t)=jE (aN t):=by unfold jE;rw[aN,if_neg (by decide),dP];rfl
theorem FN (s t:TA):aN (oF s t)=oF (aN s) (aN t):=by unfold oF;rw[aN,if_neg (by decide),dP];rfl
theorem FP (s t:TA):aN (jh s t)=jh (aN s) (aN t):=by unfold jh;rw[aN,if_neg (by decide),dP];rfl
theorem NR (t:TA):wtT (jE t)≤wtT t+64:=by unfold jE;rw[wtT,wtL,wtL];simp;omega
theorem VI (s t:TA):wtT (oF s t)≤wtT s+wtT t+80:=by unfold oF;rw[wtT,wtL,wtL,wtL];simp;omega
theorem GL (s t:TA):wtT (jh s t)≤wtT s+wtT t+80:=by unfold jh;rw[wtT,wtL,wtL,wtL];simp;omega
theorem Oa (t:TA):szT (jE t)=szT t+1:=by unfold jE;rw[oD,fP];simp[szL,yj]
theorem VQ (s t:TA):szT (oF s t)=szT s+szT t+1:=by unfold oF;rw[oD,fP,fP];simp[szL,yj]
theorem GX (s t:TA):szT (jh s t)=szT s+szT t+1:=by unfold jh;rw[oD,fP,fP];simp[szL,yj]
theorem Im {loose:Bool} (W:iW by_ e C) {a b u v:TA} (ha:GC' C a) (hb:GC' C b) (eu:aN a=u) (ev:aN b=v) (u7:u.kind≠7∧u.kind≠8) (v7:v.kind≠7∧v.kind≠8):
  LE (GC' C) (hdE e) loose a b↔BP loose (iM (LE (GC' C) (hdE e) loose)) u v:=by
 have h1:=fun x=>W.uz (x:=x) ha eu u7.1 u7.2
 have h2:=fun x=>W.uz (x:=x) hb ev v7.1 v7.2
 constructor
 ·intro h
  obtain⟨y,hy,hu⟩:=h.out.2.2 u ((h1 u).2 rfl);rw[(h2 y).1 hy]at hu;exact hu
 ·intro h
  refine LE.fold ha hb fun x hx=>⟨v,(h2 v).2 rfl,?_⟩
  rw[(h1 x).1 hx];exact h
theorem GU {loose:Bool} {B:TA→TA→Prop} {k:Int} {ns ms:List Bytes} {l m:List TA} (h:k=5∨k=6):BP loose B (.mk k [] ns l) (.mk k [] ms m)↔B (.mk k [] ns l) (.mk k [] ms m):=by
 unfold BP;simp only[TA.kind];constructor
 ·intro h'
  rcases h' with h'|⟨_,_,h'|h'⟩
  ·omega
  ·omega
  ·exact h'
 ·exact fun h'=>.inr ⟨by omega,trivial,.inr h'⟩
theorem Oy {loose:Bool} (W:iW by_ e C) {s t:TA} (gs:GC' C s) (gt:GC' C t) (ha:GC' C (jE s)) (hb:GC' C (jE t)):LE (GC' C) (hdE e) loose (jE s) (jE t)↔LE (GC' C) (hdE e) loose s t:=by
 rw[Im W ha hb (wB s) (wB t) (Ip _) (Ip _),←le_norm gs gt];unfold jE;rw[GU (.inl rfl)];unfold iM;simp[TA.kind,TA.names,TA.l,l6]
theorem WI {loose:Bool} (W:iW by_ e C) {r s t:TA} (gs:GC' C s) (gt:GC' C t) (ha:GC' C (oF r s)) (hb:GC' C (jE t)):LE (GC' C) (hdE e) loose (oF r s) (jE t)↔LE (GC' C) (hdE e) loose s t:=by
 rw[Im W ha hb (FN r s) (wB t) (S9 _ _) (Ip _),←le_norm gs gt];unfold jE oF;rw[GU (.inl rfl)];unfold iM;have e1:l6 [[106],[107]] [107]=1:=by decide
 simp[TA.kind,TA.names,TA.l,e1]
theorem WJ {loose:Bool} (W:iW by_ e C) {r s t:TA} (ha:GC' C (jE t)) (hb:GC' C (oF r s)):¬LE (GC' C) (hdE e) loose (jE t) (oF r s):=by
 rw[Im W ha hb (wB t) (FN r s) (Ip _) (S9 _ _)];unfold jE oF;rw[GU (.inl rfl)];unfold iM;simp[TA.kind,TA.names,TA.l]
theorem M5 {loose:Bool} (W:iW by_ e C) {s t s' t':TA} (gs:GC' C s) (gt:GC' C t) (gs':GC' C s') (gt':GC' C t') (ha:GC' C (jh s t)) (hb:GC' C (jh s' t')):
  LE (GC' C) (hdE e) loose (jh s t) (jh s' t')↔LE (GC' C) (hdE e) loose s' s∧LE (GC' C) (hdE e) loose t t':=by
 rw[Im W ha hb (FP s t) (FP s' t') (Ta _ _) (Ta _ _),←le_norm gs' gs,←le_norm gt gt'];unfold jh;rw[GU (.inr rfl)];unfold iM;rw[if_neg (by simp[TA.kind])];constructor
 ·rintro⟨x0,x1,y0,y1,e1,e2,h1,h2⟩
  simp only[TA.l]at e1 e2;cases e1;cases e2;exact⟨h1,h2⟩
 ·exact fun⟨h1,h2⟩=>⟨_,_,_,_,rfl,rfl,h1,h2⟩
end Go.Ag
/- What the judge answers, as the laws of package cupellaw09 ask it: the plain laws. -/
namespace Go.Ag
open Go
variable {by_ : List (Bytes × TA)} {e : dL} {C : List TA} {T : Tab}
open Classical in
noncomputable def zO (C:List TA) (e:dL) (a b:TA):Bool:=decide (LE (GC' C) (hdE e) false a b)
open Classical in
noncomputable def Nk (C:List TA) (e:dL) (a b:TA):Bool:=decide (LE (GC' C) (hdE e) true a b)
theorem oW {a b:TA}:zO C e a b=true↔LE (GC' C) (hdE e) false a b:=by unfold zO;simp
theorem Ce {a b:TA}:Nk C e a b=true↔LE (GC' C) (hdE e) true a b:=by unfold Nk;simp
theorem iW.subE (W:iW by_ e C) (F:oN T) {a b:TA} (ha:GC' C a) (hb:GC' C b):EK T.L 162 [a.av,b.av] e (.bool (zO C e a b)):=W.sub F ha hb
theorem iW.fitE (W:iW by_ e C) (F:oN T) {a b:TA} (ha:GC' C a) (hb:GC' C b):EK T.L 163 [a.av,b.av] e (.bool (Nk C e a b)):=W.fits F ha hb
theorem wP {a b:Bool} (h:a=true↔b=true):a=b:=by cases a<;>cases b<;>simp at h⊢
theorem sh_of (W:iW by_ e C) {x y:TA} (hx:GC' C x) (hy:GC' C y) (rx:GC' C (jE x)) (ry:GC' C (jE y)) (mo:GC' C (oF y x)) (xx:GC' C (jh x x)) (xy:GC' C (jh x y)) (yy:GC' C (jh y y)):
  zO C e (jE x) (jE y)=zO C e x y∧zO C e (oF y x) (jE y)=zO C e x y∧zO C e (jE y) (oF y x)=false∧zO C e (jh x x) (jh x y)=zO C e x y∧zO C e (jh y y) (jh x y)=zO C e x y∧
  Nk C e (jE x) (jE y)=Nk C e x y∧Nk C e (jh y y) (jh x y)=Nk C e x y:=by
 have H:=W.heads;refine⟨wP ?_,wP ?_,?_,wP ?_,wP ?_,wP ?_,wP ?_⟩
 ·rw[oW,oW,Oy W hx hy rx ry]
 ·rw[oW,oW,WI W hx hy mo ry]
 ·cases h:zO C e (jE y) (oF y x)
  ·rfl
  ·exact absurd (oW.1 h) (WJ W ry mo)
 ·rw[oW,oW,M5 W hx hx hx hy xx xy]
  exact⟨fun h=>h.2,fun h=>⟨LE.refl H hx,h⟩⟩
 ·rw[oW,oW,M5 W hy hy hx hy yy xy]
  exact⟨fun h=>h.1,fun h=>⟨h,LE.refl H hy⟩⟩
 ·rw[Ce,Ce,Oy W hx hy rx ry]
 ·rw[Ce,Ce,M5 W hy hy hx hy yy xy]
  exact⟨fun h=>h.1,fun h=>⟨h,LE.refl H hy⟩⟩
end Go.Ag
/- Bodies piece by piece; calls that leave all as it is. -/
namespace Go.Ag
open Go
variable {T : Tab} {L : Lnk}
def MP (P:Env→Heap→Prop):ng:=fun x e H=>match x with
 |.normal=>P e H
 |_=>False
theorem Hg {a b:AC} {e:Env} {H:Heap} {P:Env→Heap→Prop} {Q:ng} (ha:dI L a e H (MP P)) (hb:∀e' H',P e' H'→dI L b e' H' Q):dI L (.seq a b) e H Q:=by
 show dI L a e H (tN (fun e' H'=>dI L b e' H' Q) Q);refine lT (fun x e' H' hx=>?_) ha
 cases x with
 |normal=>exact hb _ _ hx
 |_=>exact hx.elim
def jQ (L:Lnk) (f:Nat) (args:List au) (H0:Heap) (y:au):Prop:=∀H',Go.Ag.agree H0.length H0 H'→aC L f args H' fun r H''=>r=.ret y∧H''=H'
theorem jQ.use {f:Nat} {args:List au} {H0:Heap} {y:au} (h:jQ L f args H0 y) {K:au→Prop} (hk:K y):∃v,(∀H',Go.Ag.agree H0.length H0 H'→aC L f args H' fun r H''=>r=.ret v∧H''=H')∧K v:=⟨y,h,hk⟩
theorem jQ.to {f:Nat} {args:List au} {H:Heap} {y:au} (h:jQ L f args H y) {K KP:au→Heap→Prop} (hk:K y H):aC L f args H (eB K KP):=
 (h H ⟨Nat.le_refl _,fun _ _ _ h _ _=>h⟩).mono fun r H' ⟨e1,e2⟩=>by subst e1 e2;exact hk
theorem jQ.weak {f:Nat} {args args':List au} {H:Heap} {y:au} (h:jQ L f args' H y) (hw:ni L args args'):jQ L f args H y:=fun H' hg=>aC.E5 (h H' hg) hw
theorem EK.Jv {f : Nat} {args : List au} {e : dL} {y : au} (h : EK L f args e y) (ha : ∀ x ∈ args, Low 0 x) (hy : Low 0 y) {H0 : Heap} {a : Nat} (hA : GH e H0 a) : jQ L f (.ptr (a + 2) 0 :: args) H0 y := fun H' hg =>
 (h.any ha hy (hA.agree hg) (K := fun v H'' => v = y ∧ H'' = H') (KP := fun _ _ => False) ⟨rfl, rfl⟩).mono fun r H'' hq => by
  cases r with
  | ret v => exact ⟨by rw [hq.1], hq.2⟩
  | pan v => exact hq.elim
theorem Pure.Jv {f:Nat} {args:List au} {y:au} (h:Pure L f args y) (H0:Heap):jQ L f args H0 y:=fun H' _=>h H'
end Go.Ag
/- Package parts: each (what each head gives). -/
namespace Go.Ag
open Go
variable {T : Tab} {L : Lnk} {σ : Type}
end Go.Ag
/- Package parts: Field; package types: Alike. -/
namespace Go.Ag
open Go
variable {T : Tab} {L : Lnk}
end Go.Ag
/- cupelref05.TypeOf, cupellaw07.Parsed, cupellaw09.Made. -/
namespace Go.Ag
open Go
variable {T : Tab} {L : Lnk}
structure Vw (T:Tab):Prop extends Vz T where
 Xt:T.has 233 UH
theorem Jg (F:Vw T) (src:Bytes) (hs:src.length≤2^31):Pure T.L 233 [.str src] (.tup [(gJ src).1.av,.bool (gJ src).2]):=by
 refine Pure.Ms 1 (dD (.str _)) (.tup _ (gq.at ⟨aQ _ _,.bool _,trivial⟩)) (aG F.Xt (by simp[UH]) ?_);have hR:=gJ.eq_1 src;unfold E9 uG at hR;generalize gJ src=R at hR⊢;conv=>whnf
 refine F.toVz.of src (by omega) _ rfl ?_;conv=>whnf
 have hok:=(mQ src (by omega)).1;have hq:=(CF F.touF (lJ src)).type 1 (bE src) hok (by omega) (Nat.le_refl _);have hle:=(bN (lJ src)).1 1 (bE src) hok;obtain⟨q,hqe⟩:∃q,bM (lJ src) 1 (bE src)=q:=⟨_,rfl⟩;rw[hqe]at hq hle hR;obtain⟨⟨a1,a2,a3,a4⟩,s⟩:=q;dsimp only at hq hle hR;have hs':=hok.of hle;refine hq.to2 (dD (.int _ _)) (aQ _ _) _ _ rfl ?_;conv=>whnf
 have e0:(s.diags.map bO.av).length=s.diags.length:=by simp
 cases hb:s.bad
 ·conv=>whnf
  refine jM hs' ?_;conv=>whnf
  refine⟨Nat.zero_le _,?_⟩;conv=>whnf
  cases hk:(s.tok.kind !=6)
  ·have hk6:(s.tok.kind==6)=true:=by simpa[bne]using hk
   conv=>whnf
   rw[e0];cases hd:decide (((s.diags.length:Nat):Int)>0)
   ·have h0:(s.diags.length==0)=true:=by simp at hd⊢;exact hd
    rw[hb,hk6,h0]at hR;have hR:R=(TA.mk a1 a2 a3 a4,true):=hR;subst hR;conv=>whnf
    exact aH (Weak.refl _)
   ·have h0:(s.diags.length==0)=false:=by
     have:=of_decide_eq_true hd;simp;intro h;rw[h]at this;exact absurd this (by decide)
    rw[hb,hk6,h0,if_neg (by simp)]at hR;subst hR;conv=>whnf
    exact aH (Weak.tup ⟨iB,Weak.refl _,trivial⟩)
  ·have hk6:(s.tok.kind==6)=false:=by simpa[bne]using hk
   rw[hb,hk6,if_neg (by simp)]at hR;subst hR;conv=>whnf
   exact aH (Weak.tup ⟨iB,Weak.refl _,trivial⟩)
 ·rw[hb,if_neg (by simp)]at hR
  subst hR;conv=>whnf
  exact aH (Weak.tup ⟨iB,Weak.refl _,trivial⟩)
def qY (s:Bytes):Bool:=decide (s.length≤600)&&(gJ s).2
def iH (l:List Bytes):List TA:=if l.all qY then l.map fun s=>(gJ s).1 else[]
structure Vy (T:Tab):Prop extends Vw T,zG T where
 XH:T.has 194 U1
theorem BI (F:Vy T) (l:List Bytes) (hl:l.length≤2^20):Pure T.L 194 [.lst (aO l) .none] (.tup [.lst (TA.avs (iH l)) .none,.lst (TA.avs (iH l)) .none,.bool (l.all qY&&decide (l.length≤12))]):=by
 refine Pure.Ms 2 (dD (dQ _ _ _ trivial)) (.tup _ (gq.at ⟨.lst _ _ trivial (aY _ _),.lst _ _ trivial (aY _ _),.bool _,trivial⟩)) (aG F.XH (by simp[U1]) ?_);have hLen:(aO l).length=l.length:=by simp[aO]
 obtain⟨res,hres⟩:∃res,au.tup [.lst (TA.avs (iH l)) .none,.lst (TA.avs (iH l)) .none,.bool (l.all qY&&decide (l.length≤12))]=res:=⟨_,rfl⟩;rw[hres]
 have hno:∀s∈l,qY s=false→Weak T.L (.tup [.lst [] .nil,.lst [] .nil,.bool false]) res:=fun s hs h=>by
  have:l.all qY=false:=by
   rw[List.all_eq_false];exact⟨s,hs,by rw[h];decide⟩
  unfold iH at hres;rw[this]at hres;subst hres;exact Weak.tup ⟨Weak.tok _ _,Weak.tok _ _,Weak.refl _,trivial⟩
 conv=>whnf
 intro I hI hG
 have key:∀(d j:Nat) (e:Env),l.length-j=d→j≤l.length→(∀s∈l.take j,qY s=true)→
   I (gB e [(0,.lst (aO l) .none),(5,.lst (TA.avs ((l.take j).map fun s=>(gJ s).1)) (bK ((l.take j).map fun s=>(gJ s).1).length 0)),(6,.lst (TA.avs ((l.take j).map fun s=>(gJ s).1)) (bK ((l.take j).map fun s=>(gJ s).1).length 1)),(7,.int .i64 j)])
    [bC ((l.take j).map fun s=>(gJ s).1).length 175,bC ((l.take j).map fun s=>(gJ s).1).length 109]:=by
  intro d
  induction d with
  |zero=>
   intro j e hd hj ha;have hjl:j=l.length:=by omega
   subst hjl;rw[List.take_length]at ha⊢;have hall:l.all qY=true:=List.all_eq_true.2 ha;unfold iH at hres;rw[hall]at hres;have hres:au.tup [.lst (TA.avs (l.map fun s=>(gJ s).1)) .none,.lst (TA.avs (l.map fun s=>(gJ s).1)) .none,.bool (decide (l.length≤12))]=res:=hres;generalize l.map (fun s=>(gJ s).1)=ts at hres⊢;apply hI;conv=>whnf
   rw[hLen,show decide (((l.length:Nat):Int)<((l.length:Nat):Int))=false from decide_eq_false (by omega)];conv=>whnf
   rw[hLen,←hres];refine⟨_,rfl,Weak.tup ⟨Weak.tok _ _,Weak.tok _ _,?_,trivial⟩⟩;rw[show decide (((l.length:Nat):Int)≤12)=decide (l.length≤12)from decide_eq_decide.2 (by omega)];exact Weak.refl _
  |succ d ihd=>
   intro j e hd hj ha;have hjl:j<l.length:=by omega
   have hget:(aO l)[((j:Nat):Int).toNat]?=some (.str l[j]):=by
    rw[Int.toNat_natCast];simp[aO,List.getElem?_map,List.getElem?_eq_getElem hjl]
   have hnext:=fun e h=>ihd (j+1) e (by omega) hjl h
   have hm:=List.getElem_mem hjl;rw[List.take_succ_eq_append_getElem hjl,List.map_append,List.map_singleton]at hnext;have hn2:=fun(h:qY l[j]=true) e=>hnext e fun s hs=>(List.mem_append.1 hs).elim (ha s) fun h'=>by rw[List.mem_singleton]at h';rw[h'];exact h
   clear hnext;have hno:=hno _ hm;have hacc:((l.take j).map fun s=>(gJ s).1).length=j:=by rw[List.length_map,List.length_take];omega
   generalize (l.take j).map (fun s=>(gJ s).1)=acc at hn2 hacc⊢;generalize l[j]=s at hget hn2 hno;have h1:s.length≤600→_:=fun h=>GA F.tozG s (by omega)
   have h2:s.length≤600→_:=fun h=>Jg F.toVw s (by omega)
   unfold qY at hn2 hno;apply hI;conv=>whnf
   rw[hLen,dz hjl];conv=>whnf
   refine step_elem (Int.natCast_nonneg _) hget rfl ?_;conv=>whnf
   by_cases WS:s.length≤600
   case neg=>
    rw[show decide (((s.length:Nat):Int)>600)=true from decide_eq_true (by omega)];conv=>whnf
    exact⟨_,rfl,hno (by rw[decide_eq_false WS];rfl)⟩
   rw[show decide (((s.length:Nat):Int)>600)=false from decide_eq_false (by omega)];have h1:=h1 WS;have h2:=h2 WS;rw[decide_eq_true WS]at hn2 hno;generalize gJ s=r at h1 h2 hn2 hno;obtain⟨x,b⟩:=r;dsimp only at h1 h2 hn2 hno;rw[Bool.true_and]at hn2 hno;have e1:TA.avs (acc ++[x])=TA.avs acc ++[x.av]:=jC acc [x];have e2:(acc ++[x]).length=(TA.avs acc ++[x.av]).length:=by rw[←e1,bY]
   have hsz:=gL acc;have hs1:=gL [x];rw[e1,e2]at hn2;have hla:(TA.avs acc).length=acc.length:=bY acc;rw[←hla]at hacc⊢;have hlo:=aY 2 (acc ++[x]);rw[e1]at hlo;obtain⟨xk,xn,xs,xl⟩:=x;conv=>whnf
   refine step_elem (Int.natCast_nonneg _) hget rfl ?_;conv=>whnf
   refine h1.to ?_;conv=>whnf
   refine step_elem (Int.natCast_nonneg _) hget rfl ?_;conv=>whnf
   refine h2.to ?_;cases b
   ·conv=>whnf
    exact⟨_,rfl,hno rfl⟩
   conv=>whnf
   refine dS (xs:=TA.avs acc) (id:=0) (k:=4) (bytes:=72) (t:=175) hsz hs1 (by rw[bY];simp;omega) (by rw[bY];simp;omega) (by simp[TA.avs]) rfl ?_;conv=>whnf
   refine dS (xs:=TA.avs acc) (id:=1) (k:=4) (bytes:=72) (t:=109) hsz hs1 (by rw[bY];simp;omega) (by rw[bY];simp;omega) (by simp[TA.avs]) rfl ?_;conv=>whnf
   refine hG.keep [(0,.lst (aO l) .none),(5,.lst (TA.avs acc ++[(TA.mk xk xn xs xl).av]) (bK (TA.avs acc ++[(TA.mk xk xn xs xl).av]).length 0)),(6,.lst (TA.avs acc ++[(TA.mk xk xn xs xl).av]) (bK (TA.avs acc ++[(TA.mk xk xn xs xl).av]).length 1)),(7,.int .i64 (j+1:Nat))]
    [bC (TA.avs acc ++[(TA.mk xk xn xs xl).av]).length 175,bC (TA.avs acc ++[(TA.mk xk xn xs xl).av]).length 109] (Nat.le_refl 2) rfl ⟨rfl,rfl,rfl,add1 (by omega),trivial⟩
    ⟨dQ _ _ _ trivial,.lst _ _ (dO (show 0<2 by decide)) hlo,.lst _ _ (dO (show 1<2 by decide)) hlo,.int _ _,trivial⟩ ⟨bG _ _ _,bG _ _ _,trivial⟩ (hn2 rfl _)
 exact inv_of [(0,.lst (aO l) .none),(5,.lst (TA.avs []) (bK 0 0)),(6,.lst (TA.avs []) (bK 0 1)),(7,.int .i64 (0:Nat))] ⟨rfl,rfl,rfl,rfl,trivial⟩ (key l.length 0 _ rfl (Nat.zero_le _) (fun s hs=>by cases hs))
end Go.Ag
/- cupellaw09.Made. -/
namespace Go.Ag
open Go
variable {T : Tab} {L : Lnk}
structure EG (T:Tab):Prop extends zI T,Vy T where
 TG:T.has 155 Pn
theorem yP {l:List Bytes} {t:TA} (h:t∈iH l):GT t∧wtT t≤2^19:=by
 unfold iH at h;split at h
 ·rename_i ha
  obtain⟨s,hs,rfl⟩:=List.mem_map.1 h;have h1:=List.all_eq_true.1 ha s hs;unfold qY at h1;rw[Bool.and_eq_true,decide_eq_true_eq]at h1;have h2:=Mc s (by omega) h1.2;have:(s.length+82)*(s.length+1)≤682*601:=Nat.mul_le_mul (by omega) (by omega);exact⟨h2.1,by omega⟩
 ·cases h
def sumOf (l:List TA):Nat:=(l.map szT).sum
theorem sz_le (t:TA):szT t≤wtT t:=by
 have:=Ck _ t (Nat.le_refl _);show(allT t).length≤_;omega
theorem VB (F : EG T) (src : Bytes) (l : List Bytes) (hs : src.length ≤ 600) (hl : l.length ≤ 2 ^ 20) (H : Heap) :
  aC T.L 155 [.str src, .lst (aO l) .none] H fun r H' => ∃ e o0 o1, lq (jA (gK src)) e ∧ H' = H ++ [o0, o1, .map (cu e.by_ 0) e.by_.length, .map (gF e.empty 0) e.empty.length, .cells [.map (H.length + 2), .map (H.length + 3)] 234] ∧
   ((l.all qY = true ∧ (gK src).length ≤ 8 ∧ jk (gK src) ≤ 60 ∧ r = .ret (.tup [.ptr (H.length + 4) 0, .lst (fV (gK src)) .none, .lst (TA.avs (iH l)) .none, .lst (TA.avs (iH l)) .none, .bool (decide (sumOf (iH l) ≤ 40))])) ∨
    r = .ret (.tup [.eD, .lst [] .nil, .lst [] .nil, .lst [] .nil, .bool false])) := by
 have hM := Yt F.tozI src hs
 have hP := BI F.toVy l hl
 have hD := tH src hs
 have hDl := AU src hs
 have hg := fun t (h : t ∈ iH l) => yP h
 have h12 : l.all qY = true → (iH l).length = l.length := fun h => by unfold iH; rw [if_pos h, List.length_map]
 have hSm := NK F.tozI (gK src) hDl (fun p hp => Nat.le_trans (hD p hp).2.2 (by decide)) .none trivial
 generalize gK src = D at hM hD hDl hSm ⊢
 generalize iH l = ts at hP hg h12 ⊢
 refine aG F.TG (by simp [Pn]) ?_
 have hLen : (TA.avs ts).length = ts.length := bY ts
 conv => whnf
 refine (hM _).mono fun r H' ⟨e, o0, o1, hok, e1, e2⟩ => ?_
 subst e1
 conv => whnf
 refine hP.to ?_
 conv => whnf
 by_cases h8 : D.length ≤ 8
 case neg =>
  rw [decide_eq_false h8]
  conv => whnf
  exact ⟨e, o0, o1, hok, e2, .inr rfl⟩
 rw [decide_eq_true h8]
 cases ha : (l.all qY && decide (l.length ≤ 12))
 ·conv => whnf
  exact ⟨e, o0, o1, hok, e2, .inr rfl⟩
 rw [Bool.and_eq_true, decide_eq_true_eq] at ha
 conv => whnf
 refine hSm.to ?_
 conv => whnf
 by_cases hz : jk D ≤ 60
 case neg =>
  rw [decide_eq_false hz]
  conv => whnf
  exact ⟨e, o0, o1, hok, e2, .inr rfl⟩
 rw [decide_eq_true hz]
 conv => whnf
 intro I hI hG
 have hsum : ∀ j, j ≤ ts.length → sumOf (ts.take j) ≤ j * 2 ^ 19 := fun j => by
  induction j with
  | zero => intro _; simp [sumOf]
  | succ j ih =>
   intro hj
   have h1 := ih (by omega)
   have h2 := sz_le ts[j]
   have h3 := (hg _ (List.getElem_mem (show j < ts.length by omega))).2
   unfold sumOf at h1 ⊢
   rw [List.take_succ_eq_append_getElem (by omega), List.map_append, List.sum_append_nat, List.map_singleton, List.sum_singleton]
   omega
 have hts : ts.length ≤ 12 := by rw [h12 ha.1]; exact ha.2
 have key : ∀ (d j : Nat) (e' : Env), ts.length - j = d → j ≤ ts.length →
   I (gB e' [(9, .ptr (H.length + 4) 0), (10, .lst (fV D) .none), (12, .lst (TA.avs ts) .none), (13, .lst (TA.avs ts) .none), (15, .int .i64 (sumOf (ts.take j) : Nat)), (16, .int .i64 j)]) H' := by
  intro d
  induction d with
  | zero =>
   intro j e' hd hj
   have hjl : j = ts.length := by omega
   subst hjl
   rw [List.take_length]
   apply hI
   conv => whnf
   rw [hLen, show decide (((ts.length : Nat) : Int) < ((ts.length : Nat) : Int)) = false from decide_eq_false (by omega)]
   conv => whnf
   rw [show decide (((sumOf ts : Nat) : Int) ≤ 40) = decide (sumOf ts ≤ 40) from decide_eq_decide.2 (by omega)]
   exact ⟨e, o0, o1, hok, e2, .inl ⟨ha.1, h8, hz, rfl⟩⟩
  | succ d ihd =>
   intro j e' hd hj
   have hjl : j < ts.length := by omega
   have hget := mP hjl
   have hnext := fun e => ihd (j + 1) e (by omega) hjl
   have hs1 := hsum (j + 1) hjl
   have e3 : sumOf (ts.take (j + 1)) = sumOf (ts.take j) + szT ts[j] := by
    unfold sumOf
    rw [List.take_succ_eq_append_getElem hjl, List.map_append, List.sum_append_nat, List.map_singleton, List.sum_singleton]
   rw [e3] at hnext hs1
   have hwj := (hg _ (List.getElem_mem hjl)).2
   have hc := uU F.KL _ ts[j] (Nat.lt_succ_self _) (by omega)
   generalize ts[j] = v at hget hc hnext hs1 hwj
   generalize sumOf (ts.take j) = m at hnext hs1 ⊢
   apply hI
   obtain ⟨vk, vn, vs, vl⟩ := v
   conv => whnf
   rw [hLen, dz hjl]
   conv => whnf
   refine step_elem (Int.natCast_nonneg _) hget rfl ?_
   conv => whnf
   refine hc.to ?_
   conv => whnf
   refine inv_of [(9, .ptr (H.length + 4) 0), (10, .lst (fV D) .none), (12, .lst (TA.avs ts) .none), (13, .lst (TA.avs ts) .none), (15, .int .i64 ((m + szT (.mk vk vn vs vl) : Nat) : Int)), (16, .int .i64 (j + 1 : Nat))] ⟨rfl, rfl, rfl, rfl, ?_, add1 (by omega), trivial⟩ (hnext _)
   show au.int .i64 (IntKind.i64.wrap (((m : Nat) : Int) + ((szT (.mk vk vn vs vl) : Nat) : Int))) = _
   rw [IntWalk.i64_in _ (by omega)]
   congr 1
 exact inv_of [(9, .ptr (H.length + 4) 0), (10, .lst (fV D) .none), (12, .lst (TA.avs ts) .none), (13, .lst (TA.avs ts) .none), (15, .int .i64 (0 : Nat)), (16, .int .i64 (0 : Nat))] ⟨rfl, rfl, rfl, rfl, rfl, rfl, trivial⟩ (key ts.length 0 _ rfl (Nat.zero_le _))
theorem NN (F:EG T) (src:Bytes) (l:List Bytes) (hs:600<src.length) (hl:l.length≤2^20):Pure T.L 155 [.str src,.lst (aO l) .none] (.tup [.eD,.lst [] .nil,.lst [] .nil,.lst [] .nil,.bool false]):=by
 have hP:=BI F.toVy l hl;refine Pure.run (gq.at ⟨.str _,dQ _ _ _ trivial,trivial⟩) (.tup _ (gq.at ⟨.eD,.lst _ _ trivial fK,.lst _ _ trivial fK,.lst _ _ trivial fK,.bool _,trivial⟩)) (aG F.TG (by simp[Pn]) ?_);conv=>whnf
 refine(RH F.tozI src hs).to ?_;conv=>whnf
 refine hP.to ?_;conv=>whnf
 exact aH (Weak.refl _)
end Go.Ag
/- Package cupellaw09: SubRules. -/
namespace Go.Ag
open Go
variable {T : Tab} {L : Lnk}
end Go.Ag
/- Drawn regions with calls of function values: their arguments are reckoned on the way. -/
namespace Go.Ag
open Go
variable {L : Lnk}
def Fp (L:Lnk) (q:AOp) (e:Env) (H0 H:Heap) (K:au→Heap→Prop):Prop:=
 match q with
 |.fJ f args=>force (ev e f) fun fv=>match fv with
  |.fn (.func g) fi ca=>evs e args fun abJ=>∃v,(∀H',Go.Ag.agree H0.length H0 H'→aC L g (fi ++abJ ++ca) H' fun r H''=>r=.ret v∧H''=H')∧K v H
  |_=>False
 |q=>yI L q e H0 H K
theorem Jt {q:AOp} {e:Env} {H0 H:Heap} {KH:au→Heap→Prop} (h:Fp L q e H0 H KH):eP L q e H0 H KH:=by
 cases q<;>first|exact AZ h|skip
 case fJ f args=>
  simp only[Fp,force_eq]at h;simp only[eP];split at h
  ·rename_i he
   rw[he];simp only[oI]at h;exact h
  ·exact h.elim
def rJ (L:Lnk) (H0:Heap):List AO→Env→Heap→(Env→Heap→Prop)→Prop
 |[],e,H,K=>K e H
 |o::os,e,H,K=>match o.guard with
  |none=>Fp L o.op e H0 H (fun v H'=>force v fun v=>rJ L H0 os (bg e o.dst v) H' K)
  |some (t,want)=>match e t with
   |.bool b=>match want,b with
    |true,true=>Fp L o.op e H0 H (fun v H'=>force v fun v=>rJ L H0 os (bg e o.dst v) H' K)
    |false,false=>Fp L o.op e H0 H (fun v H'=>force v fun v=>rJ L H0 os (bg e o.dst v) H' K)
    |true,false=>rJ L H0 os (bg e o.dst (.tup [])) H K
    |false,true=>rJ L H0 os (bg e o.dst (.tup [])) H K
   |.tup []=>rJ L H0 os (bg e o.dst (.tup [])) H K
   |_=>False
theorem oU {H0:Heap} {K:Env→Heap→Prop}:∀(l:List AO) (e:Env) (H:Heap),rJ L H0 l e H K→iA L H0 l e H K
 |[],e,H,h=>h
 |o::os,e,H,h=>by
  have go:Fp L o.op e H0 H (fun v H'=>force v fun v=>rJ L H0 os (bg e o.dst v) H' K)→eP L o.op e H0 H (fun v H'=>iA L H0 os (bg e o.dst v) H' K):=fun h=>
   iX (fun v H' h=>by rw[force_eq]at h;exact oU os _ _ h) (Jt h)
  simp only[rJ]at h;simp only[iA]
  cases hg:o.guard with
  |none=>simp only[hg]at h⊢;exact go h
  |some p=>
   obtain⟨t,want⟩:=p;simp only[hg]at h⊢;cases he:e t<;>simp only[he]at h⊢
   ·rename_i b
    cases want<;>cases b<;>first|exact go h|exact oU os _ _ h
   ·rename_i vs
    cases vs with
    |nil=>exact oU os _ _ h
    |cons=>exact False.elim h
theorem Zx {soft:List AO} {e:Env} {H:Heap} {P:Env→Heap→Prop} (h:rJ L H soft e H P):dI L (.draw soft []) e H (MP P):=by
 show iA L H soft e H (fun e' H'=>nu L [] e' H' (fun e'' H''=>MP P .normal e'' H'') (fun v H''=>MP P (.pan v) e' H''));exact gP (fun e' H' h=>h) (oU soft e H h)
def Zw :AC→List AO
 |.draw l _=>l
 |_=>[]
end Go.Ag
/- Package cupellaw09: SubMeets. -/
namespace Go.Ag
open Go
variable {T : Tab} {L : Lnk}
theorem Fy {f:Nat} (h:T.has f Vb) (t:TA):Pure T.L f [t.av] (jE t).av:=by
 obtain⟨tk,tn,ts,tl⟩:=t;refine Pure.run (dD (aQ _ _)) (aQ _ _) (aG h (by simp[Vb]) ?_);conv=>whnf
 exact⟨_,rfl,Weak.agg ⟨Weak.refl _,Weak.refl _,Weak.tok _ _,Weak.tok _ _,trivial⟩⟩
def vA (k:Int) (n:Bytes) (s l:List au):au:=.agg [.int .i64 k,.str n,.lst s .none,.lst l .none]
def isV (x:au):Prop:=∃k n s l,x=vA k n s l
theorem TA.isv (t:TA):isV t.av:=by obtain⟨k,n,s,l⟩:=t;exact⟨k,n,_,_,rfl⟩
end Go.Ag
/- Package cupellaw09: SubShapes. -/
namespace Go.Ag
open Go
variable {T : Tab} {L : Lnk}
structure YL (T:Tab):Prop extends EG T,NP T where
 TI:T.has 133 rE
 TF:T.has 164 Vb
 QZ:T.has 165 Pm
 QY:T.has 166 Pk
def shC (x y:au):aU:=.cells [.lst [x,y] .none] 173
def shD (x y:au):aU:=.cells [.int .i64 5,.str [],.lst [.str [106],.str [107]] .full,.lst [y,x] .full] 175
def shM (x y:au):au:=.agg [.int .i64 5,.str [],.lst [.str [106],.str [107]] .full,.lst [y,x] .full]
def shV :List (Nat×au):=[(7,.ptr 4 0),(9,.ptr 5 0)]
def shW (p:Bool):List (Nat×au):=[(7,.ptr 4 0),(9,.ptr 5 0),(12,.bool p)]
def shX (p f:Bool):List (Nat×au):=[(7,.ptr 4 0),(9,.ptr 5 0),(12,.bool p),(13,.bool f)]
def shY (p f:Bool):List (Nat×au):=[(7,.ptr 4 0),(9,.ptr 5 0),(12,.bool p),(13,.bool f),(14,.fn (.func 164) [] []),(15,.ptr 6 0),(16,.fn (.func 165) [] [.ptr 5 0]),(17,.fn (.func 166) [] [.ptr 5 0])]
def shQ (L:Lnk):ng:=TK [.tmp 6] fun r _=>∃x,r=.ret x∧Weak L x (.bool true)
theorem bX.Og {f:Nat} {t c y:au} {k:Nat} (h:bX L f [t,.ptr 0 0] [.cells [c] k] y [.cells [c] k]) (ht:Low 0 t) (hy:Low 0 y) (hc:Low 0 c) {H0:Heap} {id:Nat} (hid:H0[id]?=some (.cells [c] k)):jQ L f [t,.ptr id 0] H0 y:=fun H' hg=>by
 have hlt:id<H0.length:=by
  rcases Nat.lt_or_ge id H0.length with h'|h'
  ·exact h'
  ·rw[List.getElem?_eq_none h']at hid;cases hid
 have hid':H'[id]?=some (.cells [c] k):=hg.2 id _ hlt hid ⟨fun _ _=>by simp,fun _ _ _=>by simp⟩ (by simp)
 have hp:Part H' [id] [.cells [c] k]:=by
  refine⟨by simp,rfl,fun i j o hk ho=>?_⟩
  match i,hk,ho with
  |0,hk,ho=>cases hk;cases ho;rw[gD (show bI 0 (.cells [c] k)from dH ⟨hc,trivial⟩)];exact hid'
  |i+1,hk,ho=>cases hk
 exact aC.TN h (fun o ho=>by rw[List.mem_singleton]at ho;subst ho;rfl) [id] hp (by rw[List.map_cons,kF ht];rfl) (kF hy)
theorem KN (QZ:T.has 165 Pm) (x y t:TA):bX T.L 165 [t.av,.ptr 0 0] [shC x.av y.av] (jh x t).av [shC x.av y.av]:=by
 have lo:Low 0 (.lst [x.av,y.av] .none):=.lst _ _ trivial (gq.at ⟨aQ _ _,aQ _ _,trivial⟩);have lf:=aQ 1 (jh x t);have e1:(jh x t).av=.agg [.int .i64 6,.str [],.lst [] .none,.lst [x.av,t.av] .none]:=rfl;rw[e1]at lf⊢;obtain⟨xk,xn,xs,xl,hx⟩:=x.isv;obtain⟨yk,yn,ys,yl,hy⟩:=y.isv;obtain⟨tk,tn,ts,tl,ht⟩:=t.isv;rw[hx,ht]at lf⊢;rw[hy,hx]at lo;rw[hy];refine bX.of 0 rfl lf (eX.at ⟨dH ⟨lo.mono (Nat.zero_le _),trivial⟩,trivial⟩) (aC.mono (Q:=fun r H'=>∃z J,r=.ret z∧Weak T.L z (.agg [.int .i64 6,.str [],.lst [] .none,.lst [vA xk xn xs xl,vA tk tn ts tl] .none])∧H'=[shC (vA xk xn xs xl) (vA yk yn ys yl)] ++J) ?_ fun r H' ⟨z,J,e1,e2,e3⟩=>⟨z,_,J,e1,e2,e3,rfl,fun i x y h1 h2=>by rw[h1]at h2;cases h2;exact bJ.refl x⟩);refine aG QZ (by simp[Pm]) ?_;conv=>whnf
 refine⟨Int.le_refl 0,?_⟩;conv=>whnf
 refine⟨rfl,?_⟩;conv=>whnf
 exact⟨_,_,rfl,Weak.agg ⟨Weak.refl _,Weak.refl _,Weak.tok _ _,Weak.tok _ _,trivial⟩,rfl⟩
theorem Ji (QY:T.has 166 Pk) (x y t:TA):bX T.L 166 [t.av,.ptr 0 0] [shC x.av y.av] (jh t y).av [shC x.av y.av]:=by
 have lo:Low 0 (.lst [x.av,y.av] .none):=.lst _ _ trivial (gq.at ⟨aQ _ _,aQ _ _,trivial⟩);have lf:=aQ 1 (jh t y);have e1:(jh t y).av=.agg [.int .i64 6,.str [],.lst [] .none,.lst [t.av,y.av] .none]:=rfl;rw[e1]at lf⊢;obtain⟨xk,xn,xs,xl,hx⟩:=x.isv;obtain⟨yk,yn,ys,yl,hy⟩:=y.isv;obtain⟨tk,tn,ts,tl,ht⟩:=t.isv;rw[hy,ht]at lf⊢;rw[hy,hx]at lo;rw[hx];refine bX.of 0 rfl lf (eX.at ⟨dH ⟨lo.mono (Nat.zero_le _),trivial⟩,trivial⟩) (aC.mono (Q:=fun r H'=>∃z J,r=.ret z∧Weak T.L z (.agg [.int .i64 6,.str [],.lst [] .none,.lst [vA tk tn ts tl,vA yk yn ys yl] .none])∧H'=[shC (vA xk xn xs xl) (vA yk yn ys yl)] ++J) ?_ fun r H' ⟨z,J,e1,e2,e3⟩=>⟨z,_,J,e1,e2,e3,rfl,fun i x y h1 h2=>by rw[h1]at h2;cases h2;exact bJ.refl x⟩);refine aG QY (by simp[Pk]) ?_;conv=>whnf
 refine⟨by decide,?_⟩;conv=>whnf
 refine⟨rfl,?_⟩;conv=>whnf
 exact⟨_,_,rfl,Weak.agg ⟨Weak.refl _,Weak.refl _,Weak.tok _ _,Weak.tok _ _,trivial⟩,rfl⟩
theorem sh_p4 {e:Env} {o0 o1 o2 o3 o4:aU} {x y:au} {p:Bool} (he:fC e shV) (hx:isV x) (hy:isV y) (c:jQ L 162 [.ptr 4 0,x,y] [o0,o1,o2,o3,o4,shC x y] (.bool p)):
  dI L (vo 4 rE.body) e [o0,o1,o2,o3,o4,shC x y] (MP fun e' H'=>H'=[o0,o1,o2,o3,o4,shC x y]∧fC e' (shW p)):=by
 refine kQ _ _ _ _ ?_;rw[←vX he];obtain⟨xk,xn,xs,xl,rfl⟩:=hx;obtain⟨yk,yn,ys,yl,rfl⟩:=hy;conv=>whnf
 refine⟨Int.le_refl 0,?_⟩;conv=>whnf
 refine⟨rfl,?_⟩;conv=>whnf
 refine⟨by decide,?_⟩;conv=>whnf
 refine⟨rfl,?_⟩;conv=>whnf
 refine c.to ?_;conv=>whnf
 exact⟨rfl,rfl,rfl,rfl,trivial⟩
theorem sh_p5 {e:Env} {o0 o1 o2 o3 o4:aU} {x y:au} {p f:Bool} (he:fC e (shW p)) (hx:isV x) (hy:isV y) (c:jQ L 163 [.ptr 4 0,x,y] [o0,o1,o2,o3,o4,shC x y] (.bool f)):
  dI L (vo 5 rE.body) e [o0,o1,o2,o3,o4,shC x y] (MP fun e' H'=>H'=[o0,o1,o2,o3,o4,shC x y]∧fC e' (shX p f)):=by
 refine kQ _ _ _ _ ?_;rw[←vX he];obtain⟨xk,xn,xs,xl,rfl⟩:=hx;obtain⟨yk,yn,ys,yl,rfl⟩:=hy;conv=>whnf
 refine⟨Int.le_refl 0,?_⟩;conv=>whnf
 refine⟨rfl,?_⟩;conv=>whnf
 refine⟨by decide,?_⟩;conv=>whnf
 refine⟨rfl,?_⟩;conv=>whnf
 refine c.to ?_;conv=>whnf
 exact⟨rfl,rfl,rfl,rfl,rfl,trivial⟩
theorem sh_p6 {e:Env} {o0 o1 o2 o3 o4:aU} {x y:au} {p f:Bool} {Q:ng} (he:fC e (shX p f)) (hx:isV x) (hy:isV y):
  dI L (Kz 4 (Jk 6 rE.body)) e [o0,o1,o2,o3,o4,shC x y] (tN (fun e' H'=>H'=[o0,o1,o2,o3,o4,shC x y,shD x y]∧fC e' (shY p f)) Q):=by
 refine kQ _ _ _ _ ?_;rw[←vX he];obtain⟨xk,xn,xs,xl,rfl⟩:=hx;obtain⟨yk,yn,ys,yl,rfl⟩:=hy;conv=>whnf
 refine⟨by decide,?_⟩;conv=>whnf
 refine⟨rfl,?_⟩;conv=>whnf
 refine⟨Int.le_refl 0,?_⟩;conv=>whnf
 refine⟨rfl,?_⟩;conv=>whnf
 exact⟨rfl,rfl,rfl,rfl,rfl,rfl,rfl,rfl,rfl,trivial⟩
theorem YZ {e:Env} {o0 o1 o2 o3 o4:aU} {x y a b g h s u:au} {p f:Bool} (he:fC e (shY p f)) (hx:isV x) (hy:isV y) (ha:isV a) (hb:isV b) (hg:isV g) (hh:isV h) (hz:isV s) (hu:isV u)
  (rx:∀H,jQ L 164 [x] H a) (ry:∀H,jQ L 164 [y] H b)
  (gx:jQ L 165 [x,.ptr 5 0] [o0,o1,o2,o3,o4,shC x y,shD x y] g) (gy:jQ L 165 [y,.ptr 5 0] [o0,o1,o2,o3,o4,shC x y,shD x y] h) (tx:jQ L 166 [x,.ptr 5 0] [o0,o1,o2,o3,o4,shC x y,shD x y] s) (ty:jQ L 166 [y,.ptr 5 0] [o0,o1,o2,o3,o4,shC x y,shD x y] u)
  (c1:jQ L 162 [.ptr 4 0,a,b] [o0,o1,o2,o3,o4,shC x y,shD x y] (.bool p)) (c2:jQ L 162 [.ptr 4 0,shM x y,b] [o0,o1,o2,o3,o4,shC x y,shD x y] (.bool p)) (c3:jQ L 162 [.ptr 4 0,b,shM x y] [o0,o1,o2,o3,o4,shC x y,shD x y] (.bool false)) (c4:jQ L 162 [.ptr 4 0,g,h] [o0,o1,o2,o3,o4,shC x y,shD x y] (.bool p)) (c5:jQ L 162 [.ptr 4 0,u,s] [o0,o1,o2,o3,o4,shC x y,shD x y] (.bool p))
  (c6:jQ L 163 [.ptr 4 0,a,b] [o0,o1,o2,o3,o4,shC x y,shD x y] (.bool f)) (c7:jQ L 163 [.ptr 4 0,u,s] [o0,o1,o2,o3,o4,shC x y,shD x y] (.bool f)):
  dI L (vo 10 rE.body) e [o0,o1,o2,o3,o4,shC x y,shD x y] (MP fun e' _=>e' 6=.bool true):=by
 show dI L (.draw (Zw (vo 10 rE.body)) []) e _ _;refine Zx ?_;rw[←vX he];obtain⟨xk,xn,xs,xl,rfl⟩:=hx;obtain⟨yk,yn,ys,yl,rfl⟩:=hy;obtain⟨ak,an,a3,al,rfl⟩:=ha;obtain⟨bk,bn,bs,bl,rfl⟩:=hb;obtain⟨gk,gn,gs,gl,rfl⟩:=hg;obtain⟨ik,in_,is,il,rfl⟩:=hh;obtain⟨sk,sn,ss,sl,rfl⟩:=hz;obtain⟨uk,un,us,ul,rfl⟩:=hu;cases p<;>cases f
 all_goals
  conv=>whnf
  refine⟨Int.le_refl 0,?_⟩;conv=>whnf
  refine⟨rfl,?_⟩;conv=>whnf
  refine(rx _).use ?_;conv=>whnf
  refine⟨by decide,?_⟩;conv=>whnf
  refine⟨rfl,?_⟩;conv=>whnf
  refine(ry _).use ?_;conv=>whnf
  refine c1.use ?_;conv=>whnf
  refine⟨by decide,?_⟩;conv=>whnf
  refine⟨rfl,?_⟩;conv=>whnf
  refine(ry _).use ?_;conv=>whnf
  refine c2.use ?_;conv=>whnf
  refine⟨by decide,?_⟩;conv=>whnf
  refine⟨rfl,?_⟩;conv=>whnf
  refine(ry _).use ?_;conv=>whnf
  refine c3.use ?_;conv=>whnf
  refine⟨Int.le_refl 0,?_⟩;conv=>whnf
  refine⟨rfl,?_⟩;conv=>whnf
  refine gx.use ?_;conv=>whnf
  refine⟨by decide,?_⟩;conv=>whnf
  refine⟨rfl,?_⟩;conv=>whnf
  refine gy.use ?_;conv=>whnf
  refine c4.use ?_;conv=>whnf
  refine⟨by decide,?_⟩;conv=>whnf
  refine⟨rfl,?_⟩;conv=>whnf
  refine ty.use ?_;conv=>whnf
  refine⟨Int.le_refl 0,?_⟩;conv=>whnf
  refine⟨rfl,?_⟩;conv=>whnf
  refine tx.use ?_;conv=>whnf
  refine c5.use ?_;conv=>whnf
  refine⟨Int.le_refl 0,?_⟩;conv=>whnf
  refine⟨rfl,?_⟩;conv=>whnf
  refine(rx _).use ?_;conv=>whnf
  refine⟨by decide,?_⟩;conv=>whnf
  refine⟨rfl,?_⟩;conv=>whnf
  refine(ry _).use ?_;conv=>whnf
  refine c6.use ?_;conv=>whnf
  refine⟨by decide,?_⟩;conv=>whnf
  refine⟨rfl,?_⟩;conv=>whnf
  refine ty.use ?_;conv=>whnf
  refine⟨Int.le_refl 0,?_⟩;conv=>whnf
  refine⟨rfl,?_⟩;conv=>whnf
  refine tx.use ?_;conv=>whnf
  refine c7.use ?_;conv=>whnf
  rfl
theorem YX {e:Env} {H:Heap} (he:e 6=.bool true):dI L .ret e H (shQ L):=by
 refine kQ _ _ _ _ ?_;rw[←vX (show fC e [(6,.bool true)]from⟨he,trivial⟩)];conv=>whnf
 exact aH (Weak.refl _)
set_option maxHeartbeats 1000000 in
theorem EF (F:YL T) (src a b:Bytes):Pure T.L 133 [.str src,.str a,.str b] (.bool true):=by
 have hA:=LB F.toNP;rcases Nat.lt_or_ge 600 src.length with hs|hs
 ·refine Pure.run (gq.at ⟨.str _,.str _,.str _,trivial⟩) (.bool _) (aG F.TI (by simp[rE]) ?_)
  have hM:=NN F.toEG src [a,b] hs (by simp);conv=>whnf
  refine hA.to ?_;conv=>whnf
  refine(hM.weak (args:=[.str src,.lst [.str a,.str b] _]) ⟨Weak.refl _,Weak.tok _ _,trivial⟩).to ?_;conv=>whnf
  exact aH (Weak.refl _)
 have hM:=VB F.toEG src [a,b] hs (by simp) [];have hD:=tH src hs;have hT:=fun t h=>yP (l:=[a,b]) (t:=t) h
 have hL:[a,b].all qY=true→∃x y,iH [a,b]=[x,y]:=fun h=>by
  unfold iH;rw[if_pos h];exact⟨_,_,rfl⟩
 generalize gK src=D at hM hD;generalize iH [a,b]=ts at hM hT hL;refine Pure.run (gq.at ⟨.str _,.str _,.str _,trivial⟩) (.bool _) (Az F.TI (by simp[rE]) ?_);show dI T.L rE.body (fun i=>[au.str src,.str a,.str b].getD i .undef) [] _;refine zQ (P:=fun e H=>∃en o0 o1 x y,lq (jA D) en∧ts=[x,y]∧D.length≤8∧jk D≤60∧sumOf ts≤40∧H=[o0,o1,.map (cu en.by_ 0) en.by_.length,.map (gF en.empty 0) en.empty.length,.cells [.map 2,.map 3] 234,shC x.av y.av]∧fC e shV) 4 _ _ _ (kQ _ _ _ _ ?_) fun e1 H1 ⟨en,o0,o1,x,y,hok,ets,h8,hz,hsz,eH,he⟩=>?_
 ·conv=>whnf
  refine hA.to ?_;conv=>whnf
  refine(hM.E5 (args:=[.str src,.lst [.str a,.str b] _]) ⟨Weak.refl _,Weak.tok _ _,trivial⟩).mono fun r H' ⟨en,o0,o1,hok,e2,h⟩=>?_
  subst e2;rcases h with⟨hp,h8,hz,e1⟩|e1
  ·subst e1
   obtain⟨x,y,ets⟩:=hL hp;subst ets;conv=>whnf
   by_cases hsz:sumOf [x,y]≤40
   case neg=>
    rw[decide_eq_false hsz];conv=>whnf
    exact aH (Weak.refl _)
   rw[decide_eq_true hsz];conv=>whnf
   exact⟨en,o0,o1,x,y,hok,rfl,h8,hz,hsz,rfl,rfl,rfl,trivial⟩
  ·subst e1
   conv=>whnf
   exact aH (Weak.refl _)
 subst ets eH;have gx:=hT x (by simp);have gy:=hT y (by simp);have sxy:szT x+szT y≤40:=by simpa[sumOf]using hsz
 have w1:=NR x;have w2:=NR y;have w3:=VI y x;have w4:=GL x x;have w5:=GL x y;have w6:=GL y y;have z1:=Oa x;have z2:=Oa y;have z3:=VQ y x;have z4:=GX x x;have z5:=GX x y;have z6:=GX y y
 obtain⟨C,W,hC,_⟩:=ask_w (ts:=[x,y,jE x,jE y,oF y x,jh x x,jh x y,jh y y]) hD h8 hz (fun t ht=>by
  simp only[List.mem_cons,List.not_mem_nil,or_false]at ht;rcases ht with rfl|rfl|rfl|rfl|rfl|rfl|rfl|rfl
  ·exact⟨gx.1,by omega,by omega⟩
  ·exact⟨gy.1,by omega,by omega⟩
  ·exact⟨OI gx.1,by omega,by omega⟩
  ·exact⟨OI gy.1,by omega,by omega⟩
  ·exact⟨X8 gy.1 gx.1,by omega,by omega⟩
  ·exact⟨IC gx.1 gx.1,by omega,by omega⟩
  ·exact⟨IC gx.1 gy.1,by omega,by omega⟩
  ·exact⟨IC gy.1 gy.1,by omega,by omega⟩) (by simp) hok
 have cx:=hC x (by simp);have cy:=hC y (by simp);have rx:=hC (jE x) (by simp);have ry:=hC (jE y) (by simp);have mo:=hC (oF y x) (by simp);have xx:=hC (jh x x) (by simp);have xy:=hC (jh x y) (by simp);have yy:=hC (jh y y) (by simp);obtain⟨m1,m2,m3,m4,m5,m6,m7⟩:=sh_of W cx cy rx ry mo xx xy yy;have l2:∀p q:TA,∀w∈[p.av,q.av],Low 0 w:=fun p q=>gq.at ⟨aQ 0 p,aQ 0 q,trivial⟩
 have hE:∀J:Heap,GH en ([o0,o1,.map (cu en.by_ 0) en.by_.length,.map (gF en.empty 0) en.empty.length,.cells [.map 2,.map 3] 234] ++J) 2:=fun J=>⟨rfl,rfl,rfl⟩
 have fit:=fun{p q:TA} (hp:GC' C p) (hq:GC' C q) J=>(W.fitE F.tooN hp hq).Jv (l2 p q) (.bool _) (hE J)
 have sub:=fun{p q:TA} (hp:GC' C p) (hq:GC' C q) J=>(W.subE F.tooN hp hq).Jv (l2 p q) (.bool _) (hE J)
 have s1:=sub rx ry [shC x.av y.av,shD x.av y.av];have s2:=sub mo ry [shC x.av y.av,shD x.av y.av];have s3:=sub ry mo [shC x.av y.av,shD x.av y.av];have s4:=sub xx xy [shC x.av y.av,shD x.av y.av];have s5:=sub yy xy [shC x.av y.av,shD x.av y.av];have s6:=fit rx ry [shC x.av y.av,shD x.av y.av];have s7:=fit yy xy [shC x.av y.av,shD x.av y.av];rw[m1]at s1;rw[m2]at s2;rw[m3]at s3;rw[m4]at s4;rw[m5]at s5;rw[m6]at s6;rw[m7]at s7;have wm:Weak T.L (shM x.av y.av) (oF y x).av:=Weak.agg ⟨Weak.refl _,Weak.refl _,Weak.tok _ _,Weak.tok _ _,trivial⟩;have lo:Low 0 (.lst [x.av,y.av] .none):=.lst _ _ trivial (l2 x y);have g:=fun t:TA=>(KN F.QZ x y t).Og (aQ 0 t) (aQ 0 _) lo (H0:=[o0,o1,.map (cu en.by_ 0) en.by_.length,.map (gF en.empty 0) en.empty.length,.cells [.map 2,.map 3] 234,shC x.av y.av,shD x.av y.av]) (id:=5) rfl
 have k:=fun t:TA=>(Ji F.QY x y t).Og (aQ 0 t) (aQ 0 _) lo (H0:=[o0,o1,.map (cu en.by_ 0) en.by_.length,.map (gF en.empty 0) en.empty.length,.cells [.map 2,.map 3] 234,shC x.av y.av,shD x.av y.av]) (id:=5) rfl
 show dI T.L (.seq (vo 4 rE.body) (.seq (vo 5 rE.body) (Jk 6 rE.body))) e1 _ (shQ T.L);refine Hg (sh_p4 he x.isv y.isv (sub cx cy [shC x.av y.av])) fun e2 H2 ⟨eH2,he2⟩=>?_
 subst eH2;refine Hg (sh_p5 he2 x.isv y.isv (fit cx cy [shC x.av y.av])) fun e3 H3 ⟨eH3,he3⟩=>?_
 subst eH3;refine zQ 4 _ _ _ (sh_p6 he3 x.isv y.isv) fun e4 H4 ⟨eH4,he4⟩=>?_
 subst eH4;show dI T.L (.seq (vo 10 rE.body) .ret) e4 _ (shQ T.L)
 exact Hg (YZ he4 x.isv y.isv (jE x).isv (jE y).isv (jh x x).isv (jh x y).isv (jh x y).isv (jh y y).isv (fun H=>(Fy F.TF x).Jv H) (fun H=>(Fy F.TF y).Jv H) (g x) (g y) (k x) (k y)
  s1 (s2.weak ⟨Weak.refl _,wm,Weak.refl _,trivial⟩) (s3.weak ⟨Weak.refl _,Weak.refl _,wm,trivial⟩) s4 s5 s6 s7) fun e5 H5 h8=>YX h8
end Go.Ag
/- Package types: the library's CompactFunc of keyed types, walked. -/
namespace Go.Ag
open Go
variable {T : Tab} {L : Lnk}
def zkv :au:=.agg [.int .i64 0,.str [],.lst [] .nil,.lst [] .nil,.str []]
structure DStep (xs A:List (TA×Bytes)) (p m:Nat):Prop where
 len:A.length=xs.length
 front:A.take m=fZ (xs.take p)
 Zf:m=(fZ (xs.take p)).length
 pos:1≤p
 lt:m<p
 back:A.drop (p-1)=xs.drop (p-1)
theorem DStep.at {xs A:List (TA×Bytes)} {p m:Nat} (h:DStep xs A p m) {j:Nat} (h1:p-1≤j):A[j]?=xs[j]?:=by
 have e1:A[j]?=(A.drop (p-1))[j-(p-1)]?:=by rw[List.getElem?_drop];congr 1;omega
 have e2:xs[j]?=(xs.drop (p-1))[j-(p-1)]?:=by rw[List.getElem?_drop];congr 1;omega
 rw[e1,e2,h.back]
theorem DStep.skip {xs A:List (TA×Bytes)} {p m:Nat} (h:DStep xs A p m) (hp:p<xs.length) (he:(xs[p].2==(xs[p-1]'(by omega)).2)=true):DStep xs A (p+1) m:=by
 have h1:=wM xs p h.pos hp;rw[if_pos he,List.append_nil]at h1;refine⟨h.len,by rw[h1];exact h.front,by rw[h1];exact h.Zf,by omega,by have:=h.lt;omega,?_⟩;have e1:A.drop p=(A.drop (p-1)).drop 1:=by rw[List.drop_drop];congr 1;have:=h.pos;omega
 have e2:xs.drop p=(xs.drop (p-1)).drop 1:=by rw[List.drop_drop];congr 1;have:=h.pos;omega
 show A.drop p=xs.drop p;rw[e1,e2,h.back]
theorem DStep.take {xs A:List (TA×Bytes)} {p m:Nat} (h:DStep xs A p m) (hp:p<xs.length) (he:(xs[p].2==(xs[p-1]'(by omega)).2)=false):DStep xs (A.take m ++[xs[p]] ++A.drop (m+1)) (p+1) (m+1):=by
 have h1:=wM xs p h.pos hp;rw[if_neg (by rw[he];simp)]at h1;have hlt:=h.lt;have hlen:=h.len;have hml:(A.take m).length=m:=by rw[List.length_take];omega
 have e0:(A.take m ++[xs[p]]).length=m+1:=by simp[hml]
 refine⟨by simp;omega,?_,by rw[h1,List.length_append,←h.Zf];rfl,by omega,by omega,?_⟩
 ·rw[List.take_append_of_le_length (by omega),List.take_of_length_le (by omega),h1,h.front]
 ·show List.drop p _=List.drop p xs
  rw[List.drop_append,List.drop_of_length_le (by omega:(A.take m ++[xs[p]]).length≤p),List.nil_append,e0,List.drop_drop];have e1:A.drop p=(A.drop (p-1)).drop 1:=by rw[List.drop_drop];congr 1;have:=h.pos;omega
  have e2:xs.drop p=(xs.drop (p-1)).drop 1:=by rw[List.drop_drop];congr 1;have:=h.pos;omega
  rw[show m+1+(p-(m+1))=p from by omega,e1,e2,h.back]
theorem WC (n:Nat):Low n zkv:=.agg _ (gq.at ⟨.int _ _,.str _,.lst _ _ trivial (by simp),.lst _ _ trivial (by simp),.str _,trivial⟩)
theorem Y9 (u:TA×Bytes):okB 5 (au.agg (kv u).cells)=true:=by
 obtain⟨⟨k,nm,ns,l⟩,s⟩:=u;rfl
theorem ZA {xs A:List (TA×Bytes)} {n t m r:Nat} (hr:m+(r+1)=n) (hA:A.length=n) (hf:A.take m=fZ xs):
  IV 5 (.agg [.int .i64 0,.str [],.lst [] .nil,.lst [] .nil,.str []]) [.arr n (kvs A) t] (.vec 0 n 5 (0+m) (r+1))=some [.arr n (kvs (fZ xs) ++List.replicate (r+1) zkv) t]:=by
 rw[Nat.zero_add,IV];simp only[List.getElem?_cons_zero];rw[if_pos ⟨trivial,trivial,by rw[jJ];omega,by rw[List.all_eq_true];exact fun y hy=>by simpa using vH A y hy⟩];have e1:(kvs A).take m=kvs (fZ xs):=by rw[←hf];simp[kvs,List.map_take]
 have e2:(kvs A).drop (m+(r+1))=[]:=List.drop_of_length_le (by rw[jJ];omega);rw[e1,e2,List.append_nil];rfl
theorem sub1 {k:Nat} (h1:1≤k) (h:k<9223372036854775808):IntKind.i64.wrap ((k:Int)-1)=((k-1:Nat):Int):=by
 rw[IntWalk.i64_in _ (by omega)];omega
theorem IQ (F:zJ T) (xs:List (TA×Bytes)) (n t:Nat) (hn:n=xs.length) (hne:xs≠[]) (hl:n≤2^40):
  aC T.L 255 [.vec 0 n 5 0 n,.fn (.func 256) [] []] [.arr n (kvs xs) t] fun r H'=>r=.ret (.vec 0 n 5 0 (fZ xs).length)∧∃rest J:List _,(∀x∈rest,Low 0 x∧x.cells.length=5)∧(fZ xs).length+rest.length=n∧H'=[.arr n (kvs (fZ xs) ++rest) t] ++J:=by
 have heq:=Ua F.Iz;have hpos:0<xs.length:=List.length_pos_iff.2 hne;have hk5:=vH xs;refine aG F.TD (by simp[Pb]) ?_;conv=>whnf
 have e2:((n:Int)<2)=(n<2):=by apply propext;omega
 cases hn2:decide ((n:Int)<2)
 ·have hn2':2≤n:=by simp at hn2;omega
  conv=>whnf
  intro I hI hG
  have key:∀(d i:Nat) (e:Env),n-i=d→1≤i→i≤n→fZ (xs.take i)=xs.take i→I (gB e [(0,.vec 0 n 5 0 n),(1,.fn (.func 256) [] []),(5,.int .i64 i)]) [.arr n (kvs xs) t]:=by
   intro d
   induction d with
   |zero=>
    intro i e hd h1 hi Nh;apply hI;conv=>whnf
    rw[bU (by omega)];conv=>whnf
    have:xs.take i=xs:=List.take_of_length_le (by omega);rw[this]at Nh;refine⟨?_,[],[],(by simp),?_,?_⟩
    ·rw[Nh,←hn];rfl
    ·rw[Nh,hn];rfl
    ·rw[Nh,List.append_nil,List.append_nil]
   |succ d ihd=>
    intro i e hd h1 hi Nh;have hin:i<n:=by omega
    have hix:i<xs.length:=by omega
    apply hI;conv=>whnf
    rw[dz hin];conv=>whnf
    refine⟨⟨Int.natCast_nonneg _,by omega,rfl⟩,?_⟩;conv=>whnf
    rw[sub1 h1 (by omega)];refine⟨⟨Int.natCast_nonneg _,by omega,rfl⟩,?_⟩;conv=>whnf
    have ha:(0+((i:Nat):Int).toNat)*5=i*5:=by simp
    have hb:(0+((i-1:Nat):Int).toNat)*5=(i-1)*5:=by simp
    rw[ha,hb];have hgi:(kvs xs)[i]?=some (kv xs[i]):=by simp[kvs,List.getElem?_map,List.getElem?_eq_getElem hix]
    have hgj:(kvs xs)[i-1]?=some (kv (xs[i-1]'(by omega))):=by simp[kvs,List.getElem?_map,List.getElem?_eq_getElem (show i-1<xs.length by omega)]
    have hsn:(xs[i].2==(xs[i-1]'(by omega)).2)=false→fZ (xs.take (i+1))=xs.take (i+1):=fun he=>by
     have h2:=wM xs i h1 hix;rw[if_neg (by rw[he];simp),Nh]at h2;rw[h2,List.take_succ_eq_append_getElem hix]
    have hq:=heq xs[i] (xs[i-1]'(by omega))
    have hsk:(xs[i].2==(xs[i-1]'(by omega)).2)=true→DStep xs xs (i+1) i:=fun he=>by
     have h2:=wM xs i h1 hix;rw[if_pos he,List.append_nil,Nh]at h2;exact⟨rfl,h2.symm,by rw[h2,List.length_take];omega,by omega,by omega,rfl⟩
    generalize xs[i]=u at hgi hsn hq hsk;generalize xs[i-1]'(by omega)=w at hgj hsn hq hsk;refine nD (wF rfl hk5 hgi) ?_;conv=>whnf
    refine nD (wF rfl hk5 hgj) ?_;conv=>whnf
    refine hq.to ?_;conv=>whnf
    have hi1:i+1<9223372036854775808:=by omega
    cases huw:(u.2==w.2)
    ·conv=>whnf
     exact hG.keep [(0,.vec 0 n 5 0 n),(1,.fn (.func 256) [] []),(5,.int .i64 (i+1:Nat))] [.arr n (kvs xs) t] (Nat.le_refl 1) rfl ⟨rfl,rfl,add1 hi1,trivial⟩
      ⟨.vec _ _ _ _ _ (by decide:0<1),.fn _ _ _ fK fK,.int _ _,trivial⟩ ⟨kS 1 xs,trivial⟩ (ihd (i+1) _ (by omega) (by omega) (by omega) (hsn huw))
    ·have hst:=hsk huw
     clear hsk hsn hq ihd hgi hgj ha hb huw;conv=>whnf
     refine⟨⟨by omega,by omega,by omega,rfl⟩,?_⟩;conv=>whnf
     rw[Int.toNat_natCast];intro J hJ hGJ
     have keyI:∀(d k m:Nat) (A:List (TA×Bytes)) (e:Env),n-(i+k)=d→1≤k→i+k≤n→DStep xs A (i+k) m→J (gB e [(0,.vec 0 n 5 0 n),(1,.fn (.func 256) [] []),(5,.int .i64 m),(6,.vec 0 n 5 i (n-i)),(7,.int .i64 k)]) [.arr n (kvs A) t]:=by
      intro d
      induction d with
      |zero=>
       intro k m A e hd hk1 hk hst;apply hJ;conv=>whnf
       rw[bU (by omega)];conv=>whnf
       have hmn:m<n:=by have:=hst.lt;omega
       obtain⟨r,hr⟩:∃r,n-m=r+1:=⟨n-m-1,by omega⟩;refine⟨⟨by omega,by omega,by omega,rfl⟩,?_⟩;conv=>whnf
       rw[Int.toNat_natCast,hr];conv=>whnf
       have hend:i+k=n:=by omega
       rw[hend]at hst;have hxt:xs.take n=xs:=List.take_of_length_le (by omega);have hfr:=hst.front;have hm:=hst.Zf;rw[hxt]at hfr hm;rw[ZA (by omega) (by rw[hst.len];omega) hfr];conv=>whnf
       refine⟨⟨by omega,by omega,by omega,rfl⟩,?_⟩;conv=>whnf
       refine⟨by rw[←hm];rfl,List.replicate (r+1) zkv,[],fun x hx=>?_,by rw[List.length_replicate,←hm];omega,by rw[List.append_nil]⟩;rw[List.eq_of_mem_replicate hx];exact⟨WC 0,rfl⟩
      |succ d ihd=>
       intro k m A e hd hk1 hk hst;apply hJ;conv=>whnf
       rw[dz (by omega)];conv=>whnf
       have hpx:i+k<xs.length:=by omega
       have hA5:=vH A;have hAl:=hst.len;have hlt:=hst.lt;refine⟨⟨Int.natCast_nonneg _,by omega,rfl⟩,?_⟩;conv=>whnf
       rw[sub1 hk1 (by omega)];refine⟨⟨Int.natCast_nonneg _,by omega,rfl⟩,?_⟩;conv=>whnf
       have ha:(i+((k:Nat):Int).toNat)*5=(i+k)*5:=by simp
       have hb:(i+((k-1:Nat):Int).toNat)*5=(i+k-1)*5:=by rw[Int.toNat_natCast];congr 1;omega
       rw[ha,hb];have hgi:(kvs A)[i+k]?=some (kv xs[i+k]):=by simp[kvs,List.getElem?_map,hst.at (j:=i+k) (by omega),List.getElem?_eq_getElem hpx]
       have hgj:(kvs A)[i+k-1]?=some (kv (xs[i+k-1]'(by omega))):=by simp[kvs,List.getElem?_map,hst.at (j:=i+k-1) (by omega),List.getElem?_eq_getElem (show i+k-1<xs.length by omega)]
       have hq:=heq xs[i+k] (xs[i+k-1]'(by omega));have Kv:=hst.skip hpx;have htake:=hst.take hpx;generalize xs[i+k]=u at hgi hq Kv htake;generalize xs[i+k-1]'(by omega)=w at hgj hq Kv htake;refine nD (wF rfl hA5 hgi) ?_;conv=>whnf
       refine nD (wF rfl hA5 hgj) ?_;conv=>whnf
       refine hq.to ?_;conv=>whnf
       have hk1':k+1<9223372036854775808:=by omega
       have hm1':m+1<9223372036854775808:=by omega
       cases huw:(u.2==w.2)
       ·have hst':=htake huw
        conv=>whnf
        refine⟨⟨Int.natCast_nonneg _,by omega,rfl⟩,?_⟩;conv=>whnf
        rw[ha];refine nD (wF rfl hA5 hgi) ?_;conv=>whnf
        refine⟨⟨Int.natCast_nonneg _,by omega,rfl⟩,?_⟩;conv=>whnf
        rw[Y9 u,show(0+((m:Nat):Int).toNat)*5=m*5 from by simp,R5 (H:=[.arr n (kvs A) t]) (x:=.agg (kv u).cells) (i:=m) rfl hA5 (F3 u) (by rw[jJ];omega)];rw[show(kvs A).take m ++[au.agg (kv u).cells] ++(kvs A).drop (m+1)=kvs (A.take m ++[u] ++A.drop (m+1))from by simp[kvs,List.map_take,List.map_drop];rfl];generalize A.take m ++[u] ++A.drop (m+1)=A' at hst'⊢;conv=>whnf
        exact hGJ.keep [(0,.vec 0 n 5 0 n),(1,.fn (.func 256) [] []),(5,.int .i64 (m+1:Nat)),(6,.vec 0 n 5 i (n-i)),(7,.int .i64 (k+1:Nat))] [.arr n (kvs A') t] (Nat.le_refl 1) rfl ⟨rfl,rfl,add1 hm1',rfl,add1 hk1',trivial⟩
         ⟨.vec _ _ _ _ _ (by decide:0<1),.fn _ _ _ fK fK,.int _ _,.vec _ _ _ _ _ (by decide:0<1),.int _ _,trivial⟩ ⟨kS 1 A',trivial⟩ (ihd (k+1) (m+1) A' _ (by omega) (by omega) (by omega) hst')
       ·have hst':=Kv huw
        conv=>whnf
        exact hGJ.keep [(0,.vec 0 n 5 0 n),(1,.fn (.func 256) [] []),(5,.int .i64 m),(6,.vec 0 n 5 i (n-i)),(7,.int .i64 (k+1:Nat))] [.arr n (kvs A) t] (Nat.le_refl 1) rfl ⟨rfl,rfl,rfl,rfl,add1 hk1',trivial⟩
         ⟨.vec _ _ _ _ _ (by decide:0<1),.fn _ _ _ fK fK,.int _ _,.vec _ _ _ _ _ (by decide:0<1),.int _ _,trivial⟩ ⟨kS 1 A,trivial⟩ (ihd (k+1) m A _ (by omega) (by omega) (by omega) hst')
     exact inv_of [(0,.vec 0 n 5 0 n),(1,.fn (.func 256) [] []),(5,.int .i64 i),(6,.vec 0 n 5 i (n-i)),(7,.int .i64 (1:Nat))] ⟨rfl,rfl,rfl,by rw[Nat.zero_add]<;>rfl,rfl,trivial⟩ (keyI _ 1 i xs _ rfl (Nat.le_refl 1) (by omega) hst)
  exact inv_of [(0,.vec 0 n 5 0 n),(1,.fn (.func 256) [] []),(5,.int .i64 (1:Nat))] ⟨rfl,rfl,rfl,trivial⟩ (key _ 1 _ rfl (Nat.le_refl 1) (by omega) (by cases xs with
   |nil=>cases hne rfl
   |cons x l=>rfl))
 ·have hn1:n=1:=by simp at hn2;omega
  conv=>whnf
  obtain⟨x,rfl⟩:∃x,xs=[x]:=List.length_eq_one_iff.1 (by omega);refine⟨by rw[hn1];rfl,[],[],by simp,by rw[hn1];rfl,by rw[List.append_nil,List.append_nil];rfl⟩
theorem ET (F:zJ T) (xs:List (TA×Bytes)) (n t:Nat) (hn:n=xs.length) (hne:xs≠[]) (hl:n≤2^40):
  aC T.L 255 [.vec 0 n 5 0 n,.fn (.func 256) [] []] [.arr n (kvs xs) t] fun r H'=>r=.ret (.vec 0 n 5 0 (fZ xs).length)∧∃rest:List _,(∀x∈rest,Low 0 x∧x.cells.length=5)∧(fZ xs).length+rest.length=n∧H'=[.arr n (kvs (fZ xs) ++rest) t]:=by
 refine(aC.gcR (Q:=fun r H'=>r=.ret (.vec 0 n 5 0 (fZ xs).length)∧∃rest:List _,(∀x∈rest,Low 0 x∧x.cells.length=5)∧(fZ xs).length+rest.length=n∧H'=[.arr n (kvs (fZ xs) ++rest) t]) ((IQ F xs n t hn hne hl).mono fun r' H' ⟨e1,rest,J,hr,hlen,e2⟩=>⟨.ret (.vec 0 n 5 0 (fZ xs).length),_,[.arr n (kvs (fZ xs) ++rest) t],J,e2,by rw[e1];exact Weak.refl _,.vec _ _ _ _ _ (by decide:0<1),rfl,rfl,fun i o o' h1 h2=>by rw[h1]at h2;cases h2;exact bJ.refl o,eX.at ⟨fun x hx=>?_,trivial⟩,rfl,rest,hr,hlen,rfl⟩)).mono fun r H' ⟨_,e1,q⟩=>⟨e1,q⟩
 rcases List.mem_append.1 hx with hx|hx
 ·exact kS 1 _ x hx
 ·exact(hr x hx).1.mono (Nat.zero_le 1)
theorem IU (F:zJ T) (xs:List (TA×Bytes)) (n id t:Nat) (H:Heap) (hH:H[id]?=some (.arr n (kvs xs) t)) (hn:n=xs.length) (hne:xs≠[]) (hl:n≤2^40):
  aC T.L 255 [.vec id n 5 0 n,.fn (.func 256) [] []] H fun r H'=>r=.ret (.vec id n 5 0 (fZ xs).length)∧∃rest:List au,(∀x∈rest,Low 0 x∧x.cells.length=5)∧(fZ xs).length+rest.length=n∧H'=H.set id (.arr n (kvs (fZ xs) ++rest) t):=by
 have q0:gV (nameOf [id] H.length) (.arr n (kvs xs) t)=.arr n (kvs xs) t:=gD (show bI 0 (.arr n (kvs xs) t)from kS 0 xs)
 have hp:Part H [id] [.arr n (kvs xs) t]:=by
  refine⟨by simp,rfl,fun k i o hk ho=>?_⟩
  match k,hk,ho with
  |0,hk,ho=>cases hk;cases ho;rw[q0];exact hH
  |k+1,hk,ho=>cases hk
 have hf:=aC.mY (ET F xs n t hn hne hl) [id] hp (.inr fun r H' ⟨_,rest,_,_,e⟩=>by rw[e];exact Nat.le_refl 1);refine hf.mono fun r H' ⟨r1,H1',⟨e1,rest,hr,hlen,e2⟩,_,e3,e4⟩=>?_
 subst e1 e2;refine⟨e3,rest,hr,hlen,?_⟩
 have q1:gV (nameOf [id] H.length) (.arr n (kvs (fZ xs) ++rest) t)=.arr n (kvs (fZ xs) ++rest) t:=gD (show bI 0 (.arr n (kvs (fZ xs) ++rest) t)from fun x hx=>by
  rcases List.mem_append.1 hx with hx|hx
  ·exact kS 0 _ x hx
  ·exact(hr x hx).1)
 rw[e4];simp only[List.length_cons,List.length_nil,List.take_succ_cons,List.take_zero,List.drop_succ_cons,List.drop_zero,List.map_cons,List.map_nil,List.append_nil,mG];exact congrArg (H.set id) q1
theorem EU (F:zJ T) (H:Heap):aC T.L 255 [.lst [] .nil,.fn (.func 256) [] []] H fun r H'=>r=.ret (.lst [] .nil)∧H'=H:=by
 have h0:Pure T.L 255 [.lst [] .nil,.fn (.func 256) [] []] (.lst [] .nil):=by
  refine Pure.run (gq.at ⟨.lst _ _ trivial (by simp),.fn _ _ _ fK fK,trivial⟩) (.lst _ _ trivial (by simp)) (aG F.TD (by simp[Pb]) ?_);conv=>whnf
  exact aH (Weak.refl _)
 exact h0 H
end Go.Ag

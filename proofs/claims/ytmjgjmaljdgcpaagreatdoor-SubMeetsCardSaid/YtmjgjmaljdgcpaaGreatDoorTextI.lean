/- Our texts, joined by a program of ours (join.py): part 9 of 9. -/
import Derived.Test.YtmjgjmaljdgcpaaGreatDoorTextH
set_option linter.unusedVariables false
/- Types asked about under a source's definitions; what the heads of a type give (package parts), in plain lists. -/
namespace Go.Ag
open Go
variable {by_ : List (Bytes × TA)} {e : dH} {C : List TA}
theorem TF (e:dH) (t:TA):(hdE e t).Nodup:=by
 unfold hdE nV;split
 ·simp
 ·exact(nR _).imp fun h e=>by rw[e]at h;exact List.lt_irrefl _ h
theorem ask_w {D:List (Bytes×TA)} {ts:List TA} (hD:∀p∈D,jE p.1∧GT p.2∧wtT p.2≤2^19) (hl:D.length≤8) (hz:iZ D≤60) (hts:∀t∈ts,GT t∧wtT t≤2^22∧szT t≤100) (hn:ts.length≤1000) (hE:lg (iL D) e):
  ∃C,gD (iL D) e C∧(∀t∈ts,GC' C t)∧∀t∈ts,wtL (hdE e t)≤2^26:=by
 obtain⟨n1,n2⟩:=Kh D
 have hb:∀p∈iL D,NT p.2∧wtT p.2≤2^19:=fun p hp=>by
  obtain⟨q,hq,rfl⟩:=Ae hp;have:=jm q.2;exact⟨jv (hD q hq).2.1,Nat.le_trans this (hD q hq).2.2⟩
 have hsum:((iL D).map fun p=>szT p.2).sum≤60:=Nat.le_trans n2 hz
 have hone:∀p∈iL D,szT p.2≤60:=fun p hp=>by
  refine Nat.le_trans ?_ hsum
  have:∀{l:List (Bytes×TA)},p∈l→szT p.2≤(l.map fun p=>szT p.2).sum:=fun{l} h=>by
   induction l with
   |nil=>cases h
   |cons a l ih=>
    rw[List.map_cons,List.sum_cons];rcases List.mem_cons.1 h with rfl|h
    ·omega
    ·have:=ih h;omega
  exact this hp
 obtain⟨bs,hbs⟩:∃bs,bs=(iL D).map (·.2) ++ts.map aL:=⟨_,rfl⟩
 have hin:∀b∈bs,NT b∧wtT b≤2^30∧szT b≤100:=fun b h=>by
  rw[hbs]at h;rcases List.mem_append.1 h with h|h
  ·obtain⟨p,hp,rfl⟩:=List.mem_map.1 h
   have:=hone p hp;exact⟨(hb p hp).1,Nat.le_trans (hb p hp).2 (by decide),by omega⟩
  ·obtain⟨t,ht,rfl⟩:=List.mem_map.1 h
   obtain⟨k1,k2,k3⟩:=hts t ht;exact⟨jv k1,Nat.le_trans (jm t) (Nat.le_trans k2 (by decide)),Nat.le_trans (Jp t) k3⟩
 have W:gD (iL D) e (bs.flatMap gW):=Uf hE (Bq D) bs (fun p hp=>by rw[hbs];exact List.mem_append_left _ (List.mem_map.2 ⟨p,hp,rfl⟩)) (fun t ht=>(hin t ht).1) (fun t ht=>(hin t ht).2.1) (fun t ht=>(hin t ht).2.2)
  (by rw[hbs,List.length_append,List.length_map,List.length_map];omega) (by omega) hsum
 have hc:∀t∈ts,GC' (bs.flatMap gW) t:=fun t ht=>Ef (hts t ht).1 (Nat.le_trans (hts t ht).2.1 (by decide)) (by rw[hbs];exact List.mem_append_right _ (List.mem_map.2 ⟨t,ht,rfl⟩))
 refine⟨_,W,hc,fun t ht=>?_⟩;have h1:=OW (m:=2^19) (fun p hp=>(hb p hp).2) hsum;have h2:=yG (aL t);have h3:=jm t;have h4:wtT bJ=16:=rfl;have h5:=(hts t ht).2.1
 have h6:=zR (B:=bJ::(dV (aL t) ++(iL D).flatMap fun p=>gW p.2)) (TF e t) fun z hz=>by
  rcases(W.Ik (hc t ht)).1 hz with h|h
  ·rw[h.2];simp
  ·rcases Sb (fun p hp=>(hb p hp).1) h.2 (jv (hts t ht).1)with h|h|h
   ·subst h;simp
   ·simp[h]
   ·exact List.mem_cons_of_mem _ (List.mem_append_right _ h)
 rw[wtL,tL]at h6;omega
theorem M7 {l:List TA} (h:∀t∈l,NT t∧t.kind≠7) (h0:l≠[]):(bJ∈dV (mh l)↔bJ∈l)∧(bJ∉l→∀x,x∈dV (mh l)↔x∈l):=by
 have hn:∀t∈l,NT t:=fun t ht=>(h t ht).1
 have hu:dV (mh l)=Ar (mh l):=by unfold dV Ar;rfl
 rw[hu,Ea h h0];unfold nV;cases hd:l.any (fun t=>t.kind==4)
 ·have h4:bJ∉l:=fun hm=>by
   have:l.any (fun t=>t.kind==4)=true:=List.any_eq_true.2 ⟨_,hm,rfl⟩;rw[hd]at this;cases this
  rw[if_neg (by simp)];exact⟨uj hn,fun _ x=>uj hn⟩
 ·obtain⟨t,ht,h4⟩:=List.any_eq_true.1 hd
  have:t=bJ:=(hn t ht).yh (by simpa using h4);subst this;rw[if_pos rfl];exact⟨by simp[ht],fun hn=>absurd ht hn⟩
end Go.Ag
/- A type and its normal form have the same heads. -/
namespace Go.Ag
open Go
variable {by_ : List (Bytes × TA)} {e : dH} {C : List TA}
theorem Du {t:TA} (h:GT t):aL (aL t)=aL t:=eY (jv h)
theorem Cj {t:TA} (h:GT t):hdE e (aL t)=hdE e t:=by unfold hdE;rw[Du h]
theorem OM {t:TA} (h:GC' C t):GC' C (aL t):=⟨(jv h.1).gt,by have:=jm t;have:=h.2.1;omega,by rw[Du h.1];exact h.2.2⟩
theorem le_norm {loose:Bool} {a b:TA} (ha:GC' C a) (hb:GC' C b):LE (GC' C) (hdE e) loose (aL a) (aL b)↔LE (GC' C) (hdE e) loose a b:=
  ⟨fun h=>h.congr ha hb (fun x hx=>by rw[Cj ha.1];exact hx) (fun x hx=>by rw[Cj hb.1]at hx;exact hx),
   fun h=>h.congr (OM ha) (OM hb) (fun x hx=>by rw[Cj ha.1]at hx;exact hx) (fun x hx=>by rw[Cj hb.1];exact hx)⟩
end Go.Ag
/- Laws of the greatest sound relation: it is transitive, goes into the loose one, and takes unions, records and functions apart. -/
namespace Go.Ag
open Go
section
variable {G : TA → Prop} {hd : TA → List TA}
end
variable {by_ : List (Bytes × TA)} {e : dH} {C : List TA}
def mD (t:TA):TA:=.mk 5 [] [[107]] [t]
def nk (s t:TA):TA:=.mk 6 [] [] [s,t]
theorem g_k :jE [107]:=⟨by decide,by decide,by decide,by decide,by decide⟩
theorem Td (t:TA):(mD t).kind≠7∧(mD t).kind≠8:=⟨by simp[mD,TA.kind],by simp[mD,TA.kind]⟩
theorem Te (s t:TA):(nk s t).kind≠7∧(nk s t).kind≠8:=⟨by simp[nk,TA.kind],by simp[nk,TA.kind]⟩
theorem OJ {t:TA} (h:GT t):GT (mD t):=.rcd _ _ (by decide) rfl (fun x hx=>by rw[List.mem_singleton]at hx;subst hx;exact g_k) fun x hx=>by rw[List.mem_singleton]at hx;subst hx;exact h
theorem OL {s t:TA} (hs:GT s) (h:GT t):GT (nk s t):=.fn _ _ hs h
theorem FY (t:TA):aL (mD t)=mD (aL t):=by unfold mD;rw[aL,if_neg (by decide),dW];rfl
theorem FZ (s t:TA):aL (nk s t)=nk (aL s) (aL t):=by unfold nk;rw[aL,if_neg (by decide),dW];rfl
theorem NP (t:TA):wtT (mD t)≤wtT t+64:=by unfold mD;rw[wtT,wtL,wtL];simp;omega
theorem NR (s t:TA):wtT (nk s t)≤wtT s+wtT t+80:=by unfold nk;rw[wtT,wtL,wtL,wtL];simp;omega
theorem Oa (t:TA):szT (mD t)=szT t+1:=by unfold mD;rw[qj,gV];simp[szL,zI]
theorem Oc (s t:TA):szT (nk s t)=szT s+szT t+1:=by unfold nk;rw[qj,gV,gV];simp[szL,zI]
theorem M5 {loose:Bool} (W:gD by_ e C) {a b u v:TA} (ha:GC' C a) (hb:GC' C b) (eu:aL a=u) (ev:aL b=v) (u7:u.kind≠7∧u.kind≠8) (v7:v.kind≠7∧v.kind≠8):
  LE (GC' C) (hdE e) loose a b↔I8 loose (jF (LE (GC' C) (hdE e) loose)) u v:=by
 have h1:=fun x=>W.rR (x:=x) ha eu u7.1 u7.2
 have h2:=fun x=>W.rR (x:=x) hb ev v7.1 v7.2
 constructor
 ·intro h
  obtain⟨y,hy,hu⟩:=h.out.2.2 u ((h1 u).2 rfl);rw[(h2 y).1 hy]at hu;exact hu
 ·intro h
  refine LE.fold ha hb fun x hx=>⟨v,(h2 v).2 rfl,?_⟩
  rw[(h1 x).1 hx];exact h
theorem RY {loose:Bool} {B:TA→TA→Prop} {k:Int} {ns ms:List Bytes} {l m:List TA} (h:k=5∨k=6):I8 loose B (.mk k [] ns l) (.mk k [] ms m)↔B (.mk k [] ns l) (.mk k [] ms m):=by
 unfold I8;simp only[TA.kind];constructor
 ·intro h'
  rcases h' with h'|⟨_,_,h'|h'⟩
  ·omega
  ·omega
  ·exact h'
 ·exact fun h'=>.inr ⟨by omega,trivial,.inr h'⟩
theorem Oy {loose:Bool} (W:gD by_ e C) {s t:TA} (gs:GC' C s) (gt:GC' C t) (ha:GC' C (mD s)) (hb:GC' C (mD t)):LE (GC' C) (hdE e) loose (mD s) (mD t)↔LE (GC' C) (hdE e) loose s t:=by
 rw[M5 W ha hb (FY s) (FY t) (Td _) (Td _),←le_norm gs gt];unfold mD;rw[RY (.inl rfl)];unfold jF;simp[TA.kind,TA.names,TA.l,ni]
theorem Zl {loose:Bool} (W:gD by_ e C) {s t s' t':TA} (gs:GC' C s) (gt:GC' C t) (gs':GC' C s') (gt':GC' C t') (ha:GC' C (nk s t)) (hb:GC' C (nk s' t')):
  LE (GC' C) (hdE e) loose (nk s t) (nk s' t')↔LE (GC' C) (hdE e) loose s' s∧LE (GC' C) (hdE e) loose t t':=by
 rw[M5 W ha hb (FZ s t) (FZ s' t') (Te _ _) (Te _ _),←le_norm gs' gs,←le_norm gt gt'];unfold nk;rw[RY (.inr rfl)];unfold jF;rw[if_neg (by simp[TA.kind])];constructor
 ·rintro⟨x0,x1,y0,y1,e1,e2,h1,h2⟩
  simp only[TA.l]at e1 e2;cases e1;cases e2;exact⟨h1,h2⟩
 ·exact fun⟨h1,h2⟩=>⟨_,_,_,_,rfl,rfl,h1,h2⟩
theorem WU (W:gD by_ e C) {d:TA} (hd:GC' C d) (h:aL d=bJ) {x:TA}:x∈hdE e d↔x=bJ:=W.rR hd h (by decide) (by decide)
theorem El (W:gD by_ e C) {t d:TA} (ht:GC' C t) (hd:GC' C d) (h:aL d=bJ):LE (GC' C) (hdE e) true t d∧LE (GC' C) (hdE e) true d t:=by
 refine⟨LE.fold ht hd fun x hx=>⟨bJ,(WU W hd h).2 rfl,.inl ⟨.inr rfl,rfl⟩⟩,LE.fold hd ht fun x hx=>?_⟩;obtain⟨z,hz⟩:=List.exists_mem_of_ne_nil _ (W.YK ht).2;rw[(WU W hd h).1 hx];exact⟨z,hz,.inl ⟨.inl rfl,rfl⟩⟩
theorem Yj (W:gD by_ e C) {t d:TA} (ht:GC' C t) (hd:GC' C d) (h:aL d=bJ):LE (GC' C) (hdE e) false d t↔bJ∈hdE e t:=by
 constructor
 ·intro hl
  obtain⟨y,hy,hu⟩:=hl.out.2.2 bJ ((WU W hd h).2 rfl);rcases hu with⟨_,hu⟩|⟨hu,_⟩
  ·have h4:y.kind=4:=by
    have:(4:Int)=y.kind:=by simpa[bJ,TA.kind]using hu
    exact this.symm
   rw[←((W.YK ht).1 y hy).1.yh h4];exact hy
  ·exact absurd (.inl rfl) hu
 ·intro hm
  refine LE.fold hd ht fun x hx=>⟨bJ,hm,?_⟩
  rw[(WU W hd h).1 hx];exact .inl ⟨.inl rfl,rfl⟩
theorem Sj (W:gD by_ e C) {t:TA} (ht:GC' C t):C9 e t=[63]↔bJ∈hdE e t:=by
 have hw:=W.wh ht.2.2;have hn:NT (zS e t):=OB hw.1 hw.2;have hs:prT bJ 0=[63]:=by decide
 have h0:C9 e t=[63]↔zS e t=bJ:=⟨fun h=>hn.inj .dyn (by rw[hs];exact h),fun h=>by unfold C9;rw[h];exact hs⟩;rw[h0];have hi:=fun y=>ql W.ok W.nodup (aL t) y
 have hm:bJ∈hdE e t↔bJ∈sj e (aL t):=by
  rw[W.Ik ht,hi];exact⟨fun h=>h.elim (fun h=>h.1) fun h=>h.2,fun h=>.inl ⟨h,rfl⟩⟩
 rw[hm];constructor
 ·intro h
  have hp:=(M7 hw.1 hw.2).1;rw[←hp];have:mh (sj e (aL t))=bJ:=h;rw[this];exact List.mem_singleton.2 rfl
 ·intro h
  show mh (sj e (aL t))=bJ;rw[join_eq hw.1 hw.2,if_pos h]
end Go.Ag
/- What the judge answers, as the laws of package cupellaw09 ask it: the plain laws. -/
namespace Go.Ag
open Go
variable {by_ : List (Bytes × TA)} {e : dH} {C : List TA} {T : Tab}
open Classical in
noncomputable def VY (C:List TA) (e:dH) (a b:TA):Bool:=decide (LE (GC' C) (hdE e) false a b)
open Classical in
noncomputable def BX (C:List TA) (e:dH) (a b:TA):Bool:=decide (LE (GC' C) (hdE e) true a b)
theorem VX {a b:TA}:VY C e a b=true↔LE (GC' C) (hdE e) false a b:=by unfold VY;simp
theorem rD {a b:TA}:BX C e a b=true↔LE (GC' C) (hdE e) true a b:=by unfold BX;simp
theorem gD.subE (W:gD by_ e C) (F:oQ T) {a b:TA} (ha:GC' C a) (hb:GC' C b):EK T.L 162 [a.av,b.av] e (.bool (VY C e a b)):=W.sub F ha hb
theorem gD.fitE (W:gD by_ e C) (F:oQ T) {a b:TA} (ha:GC' C a) (hb:GC' C b):EK T.L 163 [a.av,b.av] e (.bool (BX C e a b)):=W.fits F ha hb
theorem Yu {a b:Bool} (h:a=true↔b=true):a=b:=by cases a<;>cases b<;>simp at h⊢
theorem me_of (W:gD by_ e C) {x d:TA} (hx:GC' C x) (hd:GC' C bJ) (rx:GC' C (mD x)) (rd:GC' C (mD bJ)) (xd:GC' C (nk x bJ)) (dx:GC' C (nk bJ x)) (hi:GC' C (.mk 1 [] [] [])) (hb:GC' C (.mk 2 [] [] [])):
  (BX C e x bJ=true∧BX C e bJ x=true∧BX C e (mD x) (mD bJ)=true∧BX C e (mD bJ) (mD x)=true∧BX C e (nk x bJ) (nk bJ x)=true)∧
  BX C e (.mk 1 [] [] []) bJ=true∧BX C e bJ (.mk 2 [] [] [])=true∧BX C e (.mk 1 [] [] []) (.mk 2 [] [] [])=false∧VY C e bJ x=(C9 e x==[63]):=by
 have nd:aL bJ=bJ:=eY .dyn;have f1:=El W hx hd nd
 refine⟨⟨rD.2 f1.1,rD.2 f1.2,rD.2 ((Oy W hx hd rx rd).2 f1.1),rD.2 ((Oy W hd hx rd rx).2 f1.2),rD.2 ((Zl W hx hd hd hx xd dx).2 ⟨f1.2,f1.2⟩)⟩,
  rD.2 (El W hi hd nd).1,rD.2 (El W hb hd nd).2,?_,Yu ?_⟩
 ·cases h:BX C e (.mk 1 [] [] []) (.mk 2 [] [] [])
  ·rfl
  ·have hl:=(M5 W hi hb (eY .int) (eY .bool) (by decide) (by decide)).1 (rD.1 h)
   rcases hl with⟨h1,_⟩|⟨_,h2,_⟩
   ·exact absurd h1 (by decide)
   ·exact absurd h2 (by decide)
 ·rw[VX,Yj W hx hd nd,beq_iff_eq,Sj W hx]
end Go.Ag
/- Bodies piece by piece; calls that leave all as it is. -/
namespace Go.Ag
open Go
variable {T : Tab} {L : Lnk}
def Qs (P:Env→Heap→Prop):ny:=fun x e H=>match x with
 |.normal=>P e H
 |_=>False
theorem Hu {a b:AC} {e:Env} {H:Heap} {P:Env→Heap→Prop} {Q:ny} (ha:dK L a e H (Qs P)) (hb:∀e' H',P e' H'→dK L b e' H' Q):dK L (.seq a b) e H Q:=by
 show dK L a e H (tY (fun e' H'=>dK L b e' H' Q) Q);refine lQ (fun x e' H' hx=>?_) ha
 cases x with
 |normal=>exact hb _ _ hx
 |_=>exact hx.elim
def ZB :AC→AC
 |.seq a _=>a
 |c=>c
def sndS :AC→AC
 |.seq _ b=>b
 |_=>.skip
def kN (L:Lnk) (f:Nat) (args:List au) (H0:Heap) (y:au):Prop:=∀H',Go.Ag.agree H0.length H0 H'→aC L f args H' fun r H''=>r=.ret y∧H''=H'
theorem kN.use {f:Nat} {args:List au} {H0:Heap} {y:au} (h:kN L f args H0 y) {K:au→Prop} (hk:K y):∃v,(∀H',Go.Ag.agree H0.length H0 H'→aC L f args H' fun r H''=>r=.ret v∧H''=H')∧K v:=⟨y,h,hk⟩
theorem kN.weak {f:Nat} {args args':List au} {H:Heap} {y:au} (h:kN L f args' H y) (hw:nA L args args'):kN L f args H y:=fun H' hg=>aC.Fg (h H' hg) hw
theorem EK.xB {f : Nat} {args : List au} {e : dH} {y : au} (h : EK L f args e y) (ha : ∀ x ∈ args, Low 0 x) (hy : Low 0 y) {H0 : Heap} {a : Nat} (hA : GV e H0 a) : kN L f (.ptr (a + 2) 0 :: args) H0 y := fun H' hg =>
 (h.any ha hy (hA.agree hg) (K := fun v H'' => v = y ∧ H'' = H') (KP := fun _ _ => False) ⟨rfl, rfl⟩).mono fun r H'' hq => by
  cases r with
  | ret v => exact ⟨by rw [hq.1], hq.2⟩
  | pan v => exact hq.elim
theorem Pure.xB {f:Nat} {args:List au} {y:au} (h:Pure L f args y) (H0:Heap):kN L f args H0 y:=fun H' _=>h H'
end Go.Ag
/- Package parts: each (what each head gives). -/
namespace Go.Ag
open Go
variable {T : Tab} {L : Lnk} {σ : Type}
end Go.Ag
/- Package parts: Field; package types: Alike. -/
namespace Go.Ag
open Go
variable {T : Tab} {L : Lnk}
end Go.Ag
/- cupelref05.TypeOf, cupellaw07.Parsed, cupellaw09.Made. -/
namespace Go.Ag
open Go
variable {T : Tab} {L : Lnk}
structure VB (T:Tab):Prop extends VF T where
 Xy:T.has 233 UO
theorem Jj (F:VB T) (src:Bytes) (hs:src.length≤2^31):Pure T.L 233 [.str src] (.tup [(gG src).1.av,.bool (gG src).2]):=by
 refine Pure.Mv 1 (dG (.str _)) (.tup _ (gB.at ⟨aT _ _,.bool _,trivial⟩)) (aG F.Xy (by simp[UO]) ?_);have hR:=gG.eq_1 src;unfold Fp uN at hR;generalize gG src=R at hR⊢;conv=>whnf
 refine F.toVF.of src (by omega) _ rfl ?_;conv=>whnf
 have hok:=(mQ src (by omega)).1;have hq:=(CO F.touM (lH src)).type 1 (bE src) hok (by omega) (Nat.le_refl _);have hle:=(bO (lH src)).1 1 (bE src) hok;obtain⟨q,hqe⟩:∃q,bN (lH src) 1 (bE src)=q:=⟨_,rfl⟩;rw[hqe]at hq hle hR;obtain⟨⟨a1,a2,a3,a4⟩,s⟩:=q;dsimp only at hq hle hR;have hs':=hok.of hle;refine hq.to2 (dG (.int _ _)) (aT _ _) _ _ rfl ?_;conv=>whnf
 have e0:(s.diags.map bP.av).length=s.diags.length:=by simp
 cases hb:s.bad
 ·conv=>whnf
  refine jP hs' ?_;conv=>whnf
  refine⟨Nat.zero_le _,?_⟩;conv=>whnf
  cases hk:(s.tok.kind !=6)
  ·have hk6:(s.tok.kind==6)=true:=by simpa[bne]using hk
   conv=>whnf
   rw[e0];cases hd:decide (((s.diags.length:Nat):Int)>0)
   ·have h0:(s.diags.length==0)=true:=by simp at hd⊢;exact hd
    rw[hb,hk6,h0]at hR;have hR:R=(TA.mk a1 a2 a3 a4,true):=hR;subst hR;conv=>whnf
    exact aH (Weak.refl _)
   ·have h0:(s.diags.length==0)=false:=by
     have:=of_decide_eq_true hd;simp;intro h;rw[h]at this;exact absurd this (by decide)
    rw[hb,hk6,h0,if_neg (by simp)]at hR;subst hR;conv=>whnf
    exact aH (Weak.tup ⟨iF,Weak.refl _,trivial⟩)
  ·have hk6:(s.tok.kind==6)=false:=by simpa[bne]using hk
   rw[hb,hk6,if_neg (by simp)]at hR;subst hR;conv=>whnf
   exact aH (Weak.tup ⟨iF,Weak.refl _,trivial⟩)
 ·rw[hb,if_neg (by simp)]at hR
  subst hR;conv=>whnf
  exact aH (Weak.tup ⟨iF,Weak.refl _,trivial⟩)
def q9 (s:Bytes):Bool:=decide (s.length≤600)&&(gG s).2
def iJ (l:List Bytes):List TA:=if l.all q9 then l.map fun s=>(gG s).1 else[]
structure VE (T:Tab):Prop extends VB T,zK T where
 XM:T.has 194 U7
theorem BN (F:VE T) (l:List Bytes) (hl:l.length≤2^20):Pure T.L 194 [.lst (aO l) .none] (.tup [.lst (TA.avs (iJ l)) .none,.lst (TA.avs (iJ l)) .none,.bool (l.all q9&&decide (l.length≤12))]):=by
 refine Pure.Mv 2 (dG (dR _ _ _ trivial)) (.tup _ (gB.at ⟨.lst _ _ trivial (aX _ _),.lst _ _ trivial (aX _ _),.bool _,trivial⟩)) (aG F.XM (by simp[U7]) ?_);have hLen:(aO l).length=l.length:=by simp[aO]
 obtain⟨res,hres⟩:∃res,au.tup [.lst (TA.avs (iJ l)) .none,.lst (TA.avs (iJ l)) .none,.bool (l.all q9&&decide (l.length≤12))]=res:=⟨_,rfl⟩;rw[hres]
 have hno:∀s∈l,q9 s=false→Weak T.L (.tup [.lst [] .nil,.lst [] .nil,.bool false]) res:=fun s hs h=>by
  have:l.all q9=false:=by
   rw[List.all_eq_false];exact⟨s,hs,by rw[h];decide⟩
  unfold iJ at hres;rw[this]at hres;subst hres;exact Weak.tup ⟨Weak.tok _ _,Weak.tok _ _,Weak.refl _,trivial⟩
 conv=>whnf
 intro I hI hG
 have key:∀(d j:Nat) (e:Env),l.length-j=d→j≤l.length→(∀s∈l.take j,q9 s=true)→
   I (fO e [(0,.lst (aO l) .none),(5,.lst (TA.avs ((l.take j).map fun s=>(gG s).1)) (bK ((l.take j).map fun s=>(gG s).1).length 0)),(6,.lst (TA.avs ((l.take j).map fun s=>(gG s).1)) (bK ((l.take j).map fun s=>(gG s).1).length 1)),(7,.int .i64 j)])
    [bC ((l.take j).map fun s=>(gG s).1).length 175,bC ((l.take j).map fun s=>(gG s).1).length 109]:=by
  intro d
  induction d with
  |zero=>
   intro j e hd hj ha;have hjl:j=l.length:=by omega
   subst hjl;rw[List.take_length]at ha⊢;have hall:l.all q9=true:=List.all_eq_true.2 ha;unfold iJ at hres;rw[hall]at hres;have hres:au.tup [.lst (TA.avs (l.map fun s=>(gG s).1)) .none,.lst (TA.avs (l.map fun s=>(gG s).1)) .none,.bool (decide (l.length≤12))]=res:=hres;generalize l.map (fun s=>(gG s).1)=ts at hres⊢;apply hI;conv=>whnf
   rw[hLen,show decide (((l.length:Nat):Int)<((l.length:Nat):Int))=false from decide_eq_false (by omega)];conv=>whnf
   rw[hLen,←hres];refine⟨_,rfl,Weak.tup ⟨Weak.tok _ _,Weak.tok _ _,?_,trivial⟩⟩;rw[show decide (((l.length:Nat):Int)≤12)=decide (l.length≤12)from decide_eq_decide.2 (by omega)];exact Weak.refl _
  |succ d ihd=>
   intro j e hd hj ha;have hjl:j<l.length:=by omega
   have hget:(aO l)[((j:Nat):Int).toNat]?=some (.str l[j]):=by
    rw[Int.toNat_natCast];simp[aO,List.getElem?_map,List.getElem?_eq_getElem hjl]
   have hnext:=fun e h=>ihd (j+1) e (by omega) hjl h
   have hm:=List.getElem_mem hjl;rw[List.take_succ_eq_append_getElem hjl,List.map_append,List.map_singleton]at hnext;have hn2:=fun(h:q9 l[j]=true) e=>hnext e fun s hs=>(List.mem_append.1 hs).elim (ha s) fun h'=>by rw[List.mem_singleton]at h';rw[h'];exact h
   clear hnext;have hno:=hno _ hm;have hacc:((l.take j).map fun s=>(gG s).1).length=j:=by rw[List.length_map,List.length_take];omega
   generalize (l.take j).map (fun s=>(gG s).1)=acc at hn2 hacc⊢;generalize l[j]=s at hget hn2 hno;have h1:s.length≤600→_:=fun h=>GQ F.tozK s (by omega)
   have h2:s.length≤600→_:=fun h=>Jj F.toVB s (by omega)
   unfold q9 at hn2 hno;apply hI;conv=>whnf
   rw[hLen,dA hjl];conv=>whnf
   refine step_elem (Int.natCast_nonneg _) hget rfl ?_;conv=>whnf
   by_cases WX:s.length≤600
   case neg=>
    rw[show decide (((s.length:Nat):Int)>600)=true from decide_eq_true (by omega)];conv=>whnf
    exact⟨_,rfl,hno (by rw[decide_eq_false WX];rfl)⟩
   rw[show decide (((s.length:Nat):Int)>600)=false from decide_eq_false (by omega)];have h1:=h1 WX;have h2:=h2 WX;rw[decide_eq_true WX]at hn2 hno;generalize gG s=r at h1 h2 hn2 hno;obtain⟨x,b⟩:=r;dsimp only at h1 h2 hn2 hno;rw[Bool.true_and]at hn2 hno;have e1:TA.avs (acc ++[x])=TA.avs acc ++[x.av]:=jG acc [x];have e2:(acc ++[x]).length=(TA.avs acc ++[x.av]).length:=by rw[←e1,bY]
   have hsz:=gM acc;have hs1:=gM [x];rw[e1,e2]at hn2;have hla:(TA.avs acc).length=acc.length:=bY acc;rw[←hla]at hacc⊢;have hlo:=aX 2 (acc ++[x]);rw[e1]at hlo;obtain⟨xk,xn,xs,xl⟩:=x;conv=>whnf
   refine step_elem (Int.natCast_nonneg _) hget rfl ?_;conv=>whnf
   refine h1.to ?_;conv=>whnf
   refine step_elem (Int.natCast_nonneg _) hget rfl ?_;conv=>whnf
   refine h2.to ?_;cases b
   ·conv=>whnf
    exact⟨_,rfl,hno rfl⟩
   conv=>whnf
   refine dU (xs:=TA.avs acc) (id:=0) (k:=4) (bytes:=72) (t:=175) hsz hs1 (by rw[bY];simp;omega) (by rw[bY];simp;omega) (by simp[TA.avs]) rfl ?_;conv=>whnf
   refine dU (xs:=TA.avs acc) (id:=1) (k:=4) (bytes:=72) (t:=109) hsz hs1 (by rw[bY];simp;omega) (by rw[bY];simp;omega) (by simp[TA.avs]) rfl ?_;conv=>whnf
   refine hG.keep [(0,.lst (aO l) .none),(5,.lst (TA.avs acc ++[(TA.mk xk xn xs xl).av]) (bK (TA.avs acc ++[(TA.mk xk xn xs xl).av]).length 0)),(6,.lst (TA.avs acc ++[(TA.mk xk xn xs xl).av]) (bK (TA.avs acc ++[(TA.mk xk xn xs xl).av]).length 1)),(7,.int .i64 (j+1:Nat))]
    [bC (TA.avs acc ++[(TA.mk xk xn xs xl).av]).length 175,bC (TA.avs acc ++[(TA.mk xk xn xs xl).av]).length 109] (Nat.le_refl 2) rfl ⟨rfl,rfl,rfl,add1 (by omega),trivial⟩
    ⟨dR _ _ _ trivial,.lst _ _ (dQ (show 0<2 by decide)) hlo,.lst _ _ (dQ (show 1<2 by decide)) hlo,.int _ _,trivial⟩ ⟨bG _ _ _,bG _ _ _,trivial⟩ (hn2 rfl _)
 exact inv_of [(0,.lst (aO l) .none),(5,.lst (TA.avs []) (bK 0 0)),(6,.lst (TA.avs []) (bK 0 1)),(7,.int .i64 (0:Nat))] ⟨rfl,rfl,rfl,rfl,trivial⟩ (key l.length 0 _ rfl (Nat.zero_le _) (fun s hs=>by cases hs))
end Go.Ag
/- cupellaw09.Made. -/
namespace Go.Ag
open Go
variable {T : Tab} {L : Lnk}
structure EO (T:Tab):Prop extends zM T,VE T where
 TK:T.has 155 Pq
theorem yS {l:List Bytes} {t:TA} (h:t∈iJ l):GT t∧wtT t≤2^19:=by
 unfold iJ at h;split at h
 ·rename_i ha
  obtain⟨s,hs,rfl⟩:=List.mem_map.1 h;have h1:=List.all_eq_true.1 ha s hs;unfold q9 at h1;rw[Bool.and_eq_true,decide_eq_true_eq]at h1;have h2:=Me s (by omega) h1.2;have:(s.length+82)*(s.length+1)≤682*601:=Nat.mul_le_mul (by omega) (by omega);exact⟨h2.1,by omega⟩
 ·cases h
def sumOf (l:List TA):Nat:=(l.map szT).sum
theorem sz_le (t:TA):szT t≤wtT t:=by
 have:=Cq _ t (Nat.le_refl _);show(allT t).length≤_;omega
theorem VH (F : EO T) (src : Bytes) (l : List Bytes) (hs : src.length ≤ 600) (hl : l.length ≤ 2 ^ 20) (H : Heap) :
  aC T.L 155 [.str src, .lst (aO l) .none] H fun r H' => ∃ e o0 o1, lg (iL (gL src)) e ∧ H' = H ++ [o0, o1, .map (dh e.by_ 0) e.by_.length, .map (gJ e.empty 0) e.empty.length, .cells [.map (H.length + 2), .map (H.length + 3)] 234] ∧
   ((l.all q9 = true ∧ (gL src).length ≤ 8 ∧ iZ (gL src) ≤ 60 ∧ r = .ret (.tup [.ptr (H.length + 4) 0, .lst (gq (gL src)) .none, .lst (TA.avs (iJ l)) .none, .lst (TA.avs (iJ l)) .none, .bool (decide (sumOf (iJ l) ≤ 40))])) ∨
    r = .ret (.tup [.eG, .lst [] .nil, .lst [] .nil, .lst [] .nil, .bool false])) := by
 have hM := Yy F.tozM src hs
 have hP := BN F.toVE l hl
 have hD := tQ src hs
 have hDl := A9 src hs
 have hg := fun t (h : t ∈ iJ l) => yS h
 have h12 : l.all q9 = true → (iJ l).length = l.length := fun h => by unfold iJ; rw [if_pos h, List.length_map]
 have hSm := NI F.tozM (gL src) hDl (fun p hp => Nat.le_trans (hD p hp).2.2 (by decide)) .none trivial
 generalize gL src = D at hM hD hDl hSm ⊢
 generalize iJ l = ts at hP hg h12 ⊢
 refine aG F.TK (by simp [Pq]) ?_
 have hLen : (TA.avs ts).length = ts.length := bY ts
 conv => whnf
 refine (hM _).mono fun r H' ⟨e, o0, o1, hok, e1, e2⟩ => ?_
 subst e1
 conv => whnf
 refine hP.to ?_
 conv => whnf
 by_cases h8 : D.length ≤ 8
 case neg =>
  rw [decide_eq_false h8]
  conv => whnf
  exact ⟨e, o0, o1, hok, e2, .inr rfl⟩
 rw [decide_eq_true h8]
 cases ha : (l.all q9 && decide (l.length ≤ 12))
 ·conv => whnf
  exact ⟨e, o0, o1, hok, e2, .inr rfl⟩
 rw [Bool.and_eq_true, decide_eq_true_eq] at ha
 conv => whnf
 refine hSm.to ?_
 conv => whnf
 by_cases hz : iZ D ≤ 60
 case neg =>
  rw [decide_eq_false hz]
  conv => whnf
  exact ⟨e, o0, o1, hok, e2, .inr rfl⟩
 rw [decide_eq_true hz]
 conv => whnf
 intro I hI hG
 have hsum : ∀ j, j ≤ ts.length → sumOf (ts.take j) ≤ j * 2 ^ 19 := fun j => by
  induction j with
  | zero => intro _; simp [sumOf]
  | succ j ih =>
   intro hj
   have h1 := ih (by omega)
   have h2 := sz_le ts[j]
   have h3 := (hg _ (List.getElem_mem (show j < ts.length by omega))).2
   unfold sumOf at h1 ⊢
   rw [List.take_succ_eq_append_getElem (by omega), List.map_append, List.sum_append_nat, List.map_singleton, List.sum_singleton]
   omega
 have hts : ts.length ≤ 12 := by rw [h12 ha.1]; exact ha.2
 have key : ∀ (d j : Nat) (e' : Env), ts.length - j = d → j ≤ ts.length →
   I (fO e' [(9, .ptr (H.length + 4) 0), (10, .lst (gq D) .none), (12, .lst (TA.avs ts) .none), (13, .lst (TA.avs ts) .none), (15, .int .i64 (sumOf (ts.take j) : Nat)), (16, .int .i64 j)]) H' := by
  intro d
  induction d with
  | zero =>
   intro j e' hd hj
   have hjl : j = ts.length := by omega
   subst hjl
   rw [List.take_length]
   apply hI
   conv => whnf
   rw [hLen, show decide (((ts.length : Nat) : Int) < ((ts.length : Nat) : Int)) = false from decide_eq_false (by omega)]
   conv => whnf
   rw [show decide (((sumOf ts : Nat) : Int) ≤ 40) = decide (sumOf ts ≤ 40) from decide_eq_decide.2 (by omega)]
   exact ⟨e, o0, o1, hok, e2, .inl ⟨ha.1, h8, hz, rfl⟩⟩
  | succ d ihd =>
   intro j e' hd hj
   have hjl : j < ts.length := by omega
   have hget := mP hjl
   have hnext := fun e => ihd (j + 1) e (by omega) hjl
   have hs1 := hsum (j + 1) hjl
   have e3 : sumOf (ts.take (j + 1)) = sumOf (ts.take j) + szT ts[j] := by
    unfold sumOf
    rw [List.take_succ_eq_append_getElem hjl, List.map_append, List.sum_append_nat, List.map_singleton, List.sum_singleton]
   rw [e3] at hnext hs1
   have hwj := (hg _ (List.getElem_mem hjl)).2
   have hc := vg F.KQ _ ts[j] (Nat.lt_succ_self _) (by omega)
   generalize ts[j] = v at hget hc hnext hs1 hwj
   generalize sumOf (ts.take j) = m at hnext hs1 ⊢
   apply hI
   obtain ⟨vk, vn, vs, vl⟩ := v
   conv => whnf
   rw [hLen, dA hjl]
   conv => whnf
   refine step_elem (Int.natCast_nonneg _) hget rfl ?_
   conv => whnf
   refine hc.to ?_
   conv => whnf
   refine inv_of [(9, .ptr (H.length + 4) 0), (10, .lst (gq D) .none), (12, .lst (TA.avs ts) .none), (13, .lst (TA.avs ts) .none), (15, .int .i64 ((m + szT (.mk vk vn vs vl) : Nat) : Int)), (16, .int .i64 (j + 1 : Nat))] ⟨rfl, rfl, rfl, rfl, ?_, add1 (by omega), trivial⟩ (hnext _)
   show au.int .i64 (IntKind.i64.wrap (((m : Nat) : Int) + ((szT (.mk vk vn vs vl) : Nat) : Int))) = _
   rw [IntWalk.i64_in _ (by omega)]
   congr 1
 exact inv_of [(9, .ptr (H.length + 4) 0), (10, .lst (gq D) .none), (12, .lst (TA.avs ts) .none), (13, .lst (TA.avs ts) .none), (15, .int .i64 (0 : Nat)), (16, .int .i64 (0 : Nat))] ⟨rfl, rfl, rfl, rfl, rfl, rfl, trivial⟩ (key ts.length 0 _ rfl (Nat.zero_le _))
theorem NK (F:EO T) (src:Bytes) (l:List Bytes) (hs:600<src.length) (hl:l.length≤2^20):Pure T.L 155 [.str src,.lst (aO l) .none] (.tup [.eG,.lst [] .nil,.lst [] .nil,.lst [] .nil,.bool false]):=by
 have hP:=BN F.toVE l hl;refine Pure.run (gB.at ⟨.str _,dR _ _ _ trivial,trivial⟩) (.tup _ (gB.at ⟨.eG,.lst _ _ trivial fP,.lst _ _ trivial fP,.lst _ _ trivial fP,.bool _,trivial⟩)) (aG F.TK (by simp[Pq]) ?_);conv=>whnf
 refine(RJ F.tozM src hs).to ?_;conv=>whnf
 refine hP.to ?_;conv=>whnf
 exact aH (Weak.refl _)
end Go.Ag
/- Package cupellaw09: SubRules. -/
namespace Go.Ag
open Go
variable {T : Tab} {L : Lnk}
theorem Qe {D:List (Bytes×TA)} {t:TA} (hD:∀p∈D,jE p.1∧GT p.2∧wtT p.2≤2^19) (hz:iZ D≤60) (gt:GT t) (hw:wtT t≤2^22):∃B,(∀z,Spr (iL D) (aL t) z→z∈B)∧wtL B≤2^30-100:=by
 obtain⟨n1,n2⟩:=Kh D
 have hb:∀p∈iL D,NT p.2∧wtT p.2≤2^19:=fun p hp=>by
  obtain⟨q,hq,rfl⟩:=Ae hp;have:=jm q.2;exact⟨jv (hD q hq).2.1,Nat.le_trans this (hD q hq).2.2⟩
 have hsum:((iL D).map fun p=>szT p.2).sum≤60:=Nat.le_trans n2 hz;refine⟨bJ::(dV (aL t) ++(iL D).flatMap fun p=>gW p.2),fun z hz=>?_,?_⟩
 ·rcases Sb (fun p hp=>(hb p hp).1) hz (jv gt)with h|h|h
  ·subst h;simp
  ·simp[h]
  ·exact List.mem_cons_of_mem _ (List.mem_append_right _ h)
 ·have h1:=OW (m:=2^19) (fun p hp=>(hb p hp).2) hsum
  have h2:=yG (aL t);have h3:=jm t;have h4:wtT bJ=16:=rfl;rw[wtL,tL];omega
end Go.Ag
/- Drawn regions with calls of function values: their arguments are reckoned on the way. -/
namespace Go.Ag
open Go
variable {L : Lnk}
def FB (L:Lnk) (q:AOp) (e:Env) (H0 H:Heap) (K:au→Heap→Prop):Prop:=
 match q with
 |.gZ f args=>force (ev e f) fun fv=>match fv with
  |.fn (.func g) fi ca=>evs e args fun abP=>∃v,(∀H',Go.Ag.agree H0.length H0 H'→aC L g (fi ++abP ++ca) H' fun r H''=>r=.ret v∧H''=H')∧K v H
  |_=>False
 |q=>yL L q e H0 H K
theorem Jw {q:AOp} {e:Env} {H0 H:Heap} {KH:au→Heap→Prop} (h:FB L q e H0 H KH):eX L q e H0 H KH:=by
 cases q<;>first|exact Bc h|skip
 case gZ f args=>
  simp only[FB,force_eq]at h;simp only[eX];split at h
  ·rename_i he
   rw[he];simp only[oL]at h;exact h
  ·exact h.elim
def rO (L:Lnk) (H0:Heap):List AO→Env→Heap→(Env→Heap→Prop)→Prop
 |[],e,H,K=>K e H
 |o::os,e,H,K=>match o.guard with
  |none=>FB L o.op e H0 H (fun v H'=>force v fun v=>rO L H0 os (bf e o.dst v) H' K)
  |some (t,want)=>match e t with
   |.bool b=>match want,b with
    |true,true=>FB L o.op e H0 H (fun v H'=>force v fun v=>rO L H0 os (bf e o.dst v) H' K)
    |false,false=>FB L o.op e H0 H (fun v H'=>force v fun v=>rO L H0 os (bf e o.dst v) H' K)
    |true,false=>rO L H0 os (bf e o.dst (.tup [])) H K
    |false,true=>rO L H0 os (bf e o.dst (.tup [])) H K
   |.tup []=>rO L H0 os (bf e o.dst (.tup [])) H K
   |_=>False
theorem oZ {H0:Heap} {K:Env→Heap→Prop}:∀(l:List AO) (e:Env) (H:Heap),rO L H0 l e H K→iE L H0 l e H K
 |[],e,H,h=>h
 |o::os,e,H,h=>by
  have go:FB L o.op e H0 H (fun v H'=>force v fun v=>rO L H0 os (bf e o.dst v) H' K)→eX L o.op e H0 H (fun v H'=>iE L H0 os (bf e o.dst v) H' K):=fun h=>
   iY (fun v H' h=>by rw[force_eq]at h;exact oZ os _ _ h) (Jw h)
  simp only[rO]at h;simp only[iE]
  cases hg:o.guard with
  |none=>simp only[hg]at h⊢;exact go h
  |some p=>
   obtain⟨t,want⟩:=p;simp only[hg]at h⊢;cases he:e t<;>simp only[he]at h⊢
   ·rename_i b
    cases want<;>cases b<;>first|exact go h|exact oZ os _ _ h
   ·rename_i vs
    cases vs with
    |nil=>exact oZ os _ _ h
    |cons=>exact False.elim h
theorem Ui {soft:List AO} {e:Env} {H:Heap} {P:Env→Heap→Prop} (h:rO L H soft e H P):dK L (.draw soft []) e H (Qs P):=by
 show iE L H soft e H (fun e' H'=>nD L [] e' H' (fun e'' H''=>Qs P .normal e'' H'') (fun v H''=>Qs P (.pan v) e' H''));exact gT (fun e' H' h=>h) (oZ soft e H h)
def Uh :AC→List AO
 |.draw l _=>l
 |_=>[]
end Go.Ag
/- Package cupellaw09: SubMeets. -/
namespace Go.Ag
open Go
variable {T : Tab} {L : Lnk}
structure YQ (T:Tab):Prop extends EO T,NM T where
 TM:T.has 135 rG
 Q6:T.has 145 Pv
 TJ:T.has 170 Pp
 TI:T.has 171 Po
theorem FJ {f:Nat} (h:T.has f Pp) (t:TA):Pure T.L f [t.av] (mD t).av:=by
 obtain⟨tk,tn,ts,tl⟩:=t;refine Pure.run (dG (aT _ _)) (aT _ _) (aG h (by simp[Pp]) ?_);conv=>whnf
 exact⟨_,rfl,Weak.agg ⟨Weak.refl _,Weak.refl _,Weak.tok _ _,Weak.tok _ _,trivial⟩⟩
theorem Gn {f:Nat} (h:T.has f Po) (s t:TA):Pure T.L f [s.av,t.av] (nk s t).av:=by
 obtain⟨tk,tn,ts,tl⟩:=t;obtain⟨sk,sn,ss,sl⟩:=s;refine Pure.run (gB.at ⟨aT _ _,aT _ _,trivial⟩) (aT _ _) (aG h (by simp[Po]) ?_);conv=>whnf
 exact⟨_,rfl,Weak.agg ⟨Weak.refl _,Weak.refl _,Weak.tok _ _,Weak.tok _ _,trivial⟩⟩
def meD :au:=.agg [.int .i64 4,.str [],.lst [] .nil,.lst [] .nil]
def meO :aU:=.cells [.int .i64 4,.str [],.lst [] .nil,.lst [] .nil] 175
theorem YX :Weak L meD bJ.av:=Weak.agg ⟨Weak.refl _,Weak.refl _,Weak.tok _ _,Weak.tok _ _,trivial⟩
def vA (k:Int) (n:Bytes) (s l:List au):au:=.agg [.int .i64 k,.str n,.lst s .none,.lst l .none]
def isV (x:au):Prop:=∃k n s l,x=vA k n s l
theorem TA.isv (t:TA):isV t.av:=by obtain⟨k,n,s,l⟩:=t;exact⟨k,n,_,_,rfl⟩
def meV (x:au):List (Nat×au):=[(5,.ptr 4 0),(7,.lst [x] .none)]
def meX (x:au):List (Nat×au):=[(5,.ptr 4 0),(7,.lst [x] .none),(10,.ptr 5 0),(11,.fn (.func 170) [] []),(12,.fn (.func 171) [] [])]
def meQ (L:Lnk):ny:=TP [.tmp 4] fun r _=>∃x,r=.ret x∧Weak L x (.bool true)
theorem me_p4 {e:Env} {o0 o1 o2 o3 o4:aU} {x:au} {Q:ny} (he:fB e (meV x)):
  dK L (KE 3 (Jo 4 rG.body)) e [o0,o1,o2,o3,o4] (tY (fun e' H'=>H'=[o0,o1,o2,o3,o4,meO]∧fB e' (meX x)) Q):=by
 refine mK _ _ _ _ ?_;rw[←wB he];conv=>whnf
 exact⟨rfl,rfl,rfl,rfl,rfl,rfl,trivial⟩
theorem me_p7 {e:Env} {o0 o1 o2 o3 o4:aU} {x a b f g:au} (he:fB e (meX x)) (hx:isV x) (ha:isV a) (hb:isV b) (hf:isV f) (hg:isV g) (r1:∀H,kN L 170 [x] H a) (r2:∀H,kN L 170 [meD] H b) (r3:∀H,kN L 171 [x,meD] H f) (r4:∀H,kN L 171 [meD,x] H g)
  (c1:kN L 163 [.ptr 4 0,x,meD] [o0,o1,o2,o3,o4,meO] (.bool true)) (c2:kN L 163 [.ptr 4 0,meD,x] [o0,o1,o2,o3,o4,meO] (.bool true)) (c3:kN L 163 [.ptr 4 0,a,b] [o0,o1,o2,o3,o4,meO] (.bool true)) (c4:kN L 163 [.ptr 4 0,b,a] [o0,o1,o2,o3,o4,meO] (.bool true)) (c5:kN L 163 [.ptr 4 0,f,g] [o0,o1,o2,o3,o4,meO] (.bool true)):
  dK L (ZB (vG 7 rG.body)) e [o0,o1,o2,o3,o4,meO] (Qs fun e' H'=>H'=[o0,o1,o2,o3,o4,meO]∧fB e' ((86,.bool false)::meX x)):=by
 show dK L (.draw (Uh (ZB (vG 7 rG.body))) []) e _ _;refine Ui ?_;rw[←wB he];obtain⟨xk,xn,xs,xl,rfl⟩:=hx;obtain⟨ak,an,a3,al,rfl⟩:=ha;obtain⟨bk,bn,bs,bl,rfl⟩:=hb;obtain⟨fk,fn,fs,fl,rfl⟩:=hf;obtain⟨gk,gn,gs,gl,rfl⟩:=hg;conv=>whnf
 refine⟨Int.le_refl 0,?_⟩;conv=>whnf
 refine⟨rfl,?_⟩;conv=>whnf
 refine c1.use ?_;conv=>whnf
 refine⟨Int.le_refl 0,?_⟩;conv=>whnf
 refine⟨rfl,?_⟩;conv=>whnf
 refine c2.use ?_;conv=>whnf
 refine⟨Int.le_refl 0,?_⟩;conv=>whnf
 refine⟨rfl,?_⟩;conv=>whnf
 refine(r1 _).use ?_;conv=>whnf
 refine(r2 _).use ?_;conv=>whnf
 refine c3.use ?_;conv=>whnf
 refine(r2 _).use ?_;conv=>whnf
 refine⟨Int.le_refl 0,?_⟩;conv=>whnf
 refine⟨rfl,?_⟩;conv=>whnf
 refine(r1 _).use ?_;conv=>whnf
 refine c4.use ?_;conv=>whnf
 refine⟨Int.le_refl 0,?_⟩;conv=>whnf
 refine⟨rfl,?_⟩;conv=>whnf
 refine(r3 _).use ?_;conv=>whnf
 refine⟨Int.le_refl 0,?_⟩;conv=>whnf
 refine⟨rfl,?_⟩;conv=>whnf
 refine(r4 _).use ?_;conv=>whnf
 refine c5.use ?_;conv=>whnf
 exact⟨rfl,rfl,rfl,rfl,rfl,rfl,rfl,trivial⟩
theorem me_p8 {e:Env} {o0 o1 o2 o3 o4:aU} {x i j:au} {d:Bool} {s:Bytes} (he:fB e (meX x)) (hx:isV x) (hi:isV i) (hj:isV j) (hd:d=(s==[63])) (t1:∀H,kN L 172 [.str [105,110,116]] H i) (t2:∀H,kN L 172 [.str [98,111,111,108]] H j)
  (c1:kN L 163 [.ptr 4 0,i,meD] [o0,o1,o2,o3,o4,meO] (.bool true)) (c2:kN L 163 [.ptr 4 0,meD,j] [o0,o1,o2,o3,o4,meO] (.bool true)) (c3:kN L 163 [.ptr 4 0,i,j] [o0,o1,o2,o3,o4,meO] (.bool false)) (c4:kN L 162 [.ptr 4 0,meD,x] [o0,o1,o2,o3,o4,meO] (.bool d)) (c5:kN L 145 [.ptr 4 0,x] [o0,o1,o2,o3,o4,meO] (.str s)):
  dK L (vG 8 rG.body) e [o0,o1,o2,o3,o4,meO] (Qs fun e' _=>e' 4=.bool true):=by
 show dK L (.draw (Uh (vG 8 rG.body)) []) e _ _;refine Ui ?_;rw[←wB he];obtain⟨xk,xn,xs,xl,rfl⟩:=hx;obtain⟨ik,in_,is,il,rfl⟩:=hi;obtain⟨jk,jn,js,jl,rfl⟩:=hj;conv=>whnf
 refine(t1 _).use ?_;conv=>whnf
 refine c1.use ?_;conv=>whnf
 refine(t2 _).use ?_;conv=>whnf
 refine c2.use ?_;conv=>whnf
 refine(t1 _).use ?_;conv=>whnf
 refine(t2 _).use ?_;conv=>whnf
 refine c3.use ?_;conv=>whnf
 refine⟨Int.le_refl 0,?_⟩;conv=>whnf
 refine⟨rfl,?_⟩;conv=>whnf
 refine c4.use ?_;conv=>whnf
 refine⟨Int.le_refl 0,?_⟩;conv=>whnf
 refine⟨rfl,?_⟩;conv=>whnf
 refine c5.use ?_;conv=>whnf
 subst hd;show au.bool _=_;cases hs:(s==[63])
 ·simp
 ·simp
theorem Zi {e:Env} {H:Heap} (he:e 4=.bool true):dK L .ret e H (meQ L):=by
 refine mK _ _ _ _ ?_;rw[←wB (show fB e [(4,.bool true)]from⟨he,trivial⟩)];conv=>whnf
 exact aH (Weak.refl _)
set_option maxHeartbeats 1000000 in
theorem Fb (F:YQ T) (src a:Bytes):Pure T.L 135 [.str src,.str a] (.bool true):=by
 have hA:=LG F.toNM;rcases Nat.lt_or_ge 600 src.length with hs|hs
 ·refine Pure.run (gB.at ⟨.str _,.str _,trivial⟩) (.bool _) (aG F.TM (by simp[rG]) ?_)
  have hM:=NK F.toEO src [a] hs (by simp);conv=>whnf
  refine hA.to ?_;conv=>whnf
  refine(hM.weak (args:=[.str src,.lst [.str a] _]) ⟨Weak.refl _,Weak.tok _ _,trivial⟩).to ?_;conv=>whnf
  exact aH (Weak.refl _)
 have hM:=VH F.toEO src [a] hs (by simp) [];have hD:=tQ src hs;have hT:=fun t h=>yS (l:=[a]) (t:=t) h
 have hL:[a].all q9=true→∃x,iJ [a]=[x]:=fun h=>by
  unfold iJ;rw[if_pos h];exact⟨_,rfl⟩
 generalize gL src=D at hM hD;generalize iJ [a]=ts at hM hT hL;refine Pure.run (gB.at ⟨.str _,.str _,trivial⟩) (.bool _) (AR F.TM (by simp[rG]) ?_);show dK T.L rG.body (fun i=>[au.str src,.str a].getD i .undef) [] _;refine zU (P:=fun e H=>∃en o0 o1 x,lg (iL D) en∧ts=[x]∧D.length≤8∧iZ D≤60∧sumOf ts≤40∧H=[o0,o1,.map (dh en.by_ 0) en.by_.length,.map (gJ en.empty 0) en.empty.length,.cells [.map 2,.map 3] 234]∧fB e (meV x.av)) 4 _ _ _ (mK _ _ _ _ ?_) fun e1 H1 ⟨en,o0,o1,x,hok,ets,h8,hz,hsz,eH,he⟩=>?_
 ·conv=>whnf
  refine hA.to ?_;conv=>whnf
  refine(hM.Fg (args:=[.str src,.lst [.str a] _]) ⟨Weak.refl _,Weak.tok _ _,trivial⟩).mono fun r H' ⟨en,o0,o1,hok,e2,h⟩=>?_
  subst e2;rcases h with⟨hp,h8,hz,e1⟩|e1
  ·subst e1
   obtain⟨x,ets⟩:=hL hp;subst ets;conv=>whnf
   by_cases hsz:sumOf [x]≤40
   case neg=>
    rw[decide_eq_false hsz];conv=>whnf
    exact aH (Weak.refl _)
   rw[decide_eq_true hsz];conv=>whnf
   exact⟨en,o0,o1,x,hok,rfl,h8,hz,hsz,rfl,rfl,rfl,trivial⟩
  ·subst e1
   conv=>whnf
   exact aH (Weak.refl _)
 subst ets eH;have gx:=hT x (by simp);have sxy:szT x≤40:=by simpa[sumOf]using hsz
 have w0:wtT bJ=16:=rfl;have z0:szT bJ=1:=by decide
 have w1:=NP x;have w2:=NP bJ;have w3:=NR x bJ;have w4:=NR bJ x;have z1:=Oa x;have z2:=Oa bJ;have z3:=Oc x bJ;have z4:=Oc bJ x
 obtain⟨C,W,hC,_⟩:=ask_w (ts:=[x,bJ,mD x,mD bJ,nk x bJ,nk bJ x,.mk 1 [] [] [],.mk 2 [] [] []]) hD h8 hz (fun t ht=>by
  simp only[List.mem_cons,List.not_mem_nil,or_false]at ht;rcases ht with rfl|rfl|rfl|rfl|rfl|rfl|rfl|rfl
  ·exact⟨gx.1,by omega,by omega⟩
  ·exact⟨.dyn,by omega,by omega⟩
  ·exact⟨OJ gx.1,by omega,by omega⟩
  ·exact⟨OJ .dyn,by omega,by omega⟩
  ·exact⟨OL gx.1 .dyn,by omega,by omega⟩
  ·exact⟨OL .dyn gx.1,by omega,by omega⟩
  ·exact⟨.int,by decide,by decide⟩
  ·exact⟨.bool,by decide,by decide⟩) (by simp) hok
 have cx:=hC x (by simp);have cd:=hC bJ (by simp);have cr:=hC (mD x) (by simp);have cq:=hC (mD bJ) (by simp);have cf:=hC (nk x bJ) (by simp);have cg:=hC (nk bJ x) (by simp);have ci:=hC (.mk 1 [] [] []) (by simp);have cb:=hC (.mk 2 [] [] []) (by simp);obtain⟨B,hB,hw⟩:=Qe hD hz gx.1 (by omega);have hS:=W.V4 F.towu F.Q6 cx hB hw;obtain⟨⟨m1,m2,m3,m4,m5⟩,m6,m7,m8,m9⟩:=me_of (d:=bJ) W cx cd cr cq cf cg ci cb;have l2:∀p q:TA,∀w∈[p.av,q.av],Low 0 w:=fun p q=>gB.at ⟨aT 0 p,aT 0 q,trivial⟩
 have hE:∀J:Heap,GV en ([o0,o1,.map (dh en.by_ 0) en.by_.length,.map (gJ en.empty 0) en.empty.length,.cells [.map 2,.map 3] 234] ++J) 2:=fun J=>⟨rfl,rfl,rfl⟩
 have fit:=fun{p q:TA} (hp:GC' C p) (hq:GC' C q)=>(W.fitE F.tooQ hp hq).xB (l2 p q) (.bool _) (hE [meO])
 have f1:=fit cx cd;have f2:=fit cd cx;have f3:=fit cr cq;have f4:=fit cq cr;have f5:=fit cf cg;have f6:=fit ci cd;have f7:=fit cd cb;have f8:=fit ci cb;have f9:=(W.subE F.tooQ cd cx).xB (l2 bJ x) (.bool _) (hE [meO]);rw[m1]at f1;rw[m2]at f2;rw[m3]at f3;rw[m4]at f4;rw[m5]at f5;rw[m6]at f6;rw[m7]at f7;rw[m8]at f8;rw[m9]at f9;have wd:∀{L:Lnk},Weak L meD bJ.av:=YX
 have hty:∀(s:Bytes) (t:TA),s.length≤100→gG s=(t,true)→Pure T.L 172 [.str s] t.av:=fun s t hs h=>by
  have:=Fq F.toNM s (by omega);rw[h]at this;exact this
 have ti:=hty _ _ (by decide) NW;have tb:=hty _ _ (by decide) Jl;show dK T.L (Jo 4 rG.body) e1 _ (meQ T.L);refine zU 3 _ _ _ (me_p4 he) fun e2 H2 ⟨eH2,he2⟩=>?_
 subst eH2;show dK T.L (.seq (.seq (ZB (vG 7 rG.body)) (sndS (vG 7 rG.body))) (.seq (vG 8 rG.body) .ret)) e2 _ (meQ T.L)
 refine Hu (P:=fun e' H'=>H'=[o0,o1,.map (dh en.by_ 0) en.by_.length,.map (gJ en.empty 0) en.empty.length,.cells [.map 2,.map 3] 234,meO]∧fB e' (meX x.av)) (Hu (me_p7 he2 x.isv (mD x).isv (mD bJ).isv (nk x bJ).isv (nk bJ x).isv
  (fun H=>(FJ F.TJ x).xB H) (fun H=>((FJ F.TJ bJ).xB H).weak ⟨wd,trivial⟩) (fun H=>((Gn F.TI x bJ).xB H).weak ⟨Weak.refl _,wd,trivial⟩) (fun H=>((Gn F.TI bJ x).xB H).weak ⟨wd,Weak.refl _,trivial⟩)
  (f1.weak ⟨Weak.refl _,Weak.refl _,wd,trivial⟩) (f2.weak ⟨Weak.refl _,wd,Weak.refl _,trivial⟩) f3 f4 f5) fun e4 H4 ⟨eH4,h86,he4⟩=>?_) fun e5 H5 ⟨eH5,he5⟩=>?_
 ·subst eH4
  refine mK _ _ _ _ ?_;have hid:fO e4 [(86,.bool false)]=e4:=wB (show fB e4 [(86,.bool false)]from⟨h86,trivial⟩);rw[←hid];conv=>whnf
  show _∧fB (fO e4 [(86,.bool false)]) _;rw[hid];exact⟨rfl,he4⟩
 subst eH5;exact Hu (me_p8 he5 x.isv (TA.mk 1 [] [] []).isv (TA.mk 2 [] [] []).isv rfl (fun H=>ti.xB H) (fun H=>tb.xB H) (f6.weak ⟨Weak.refl _,Weak.refl _,wd,trivial⟩) (f7.weak ⟨Weak.refl _,wd,Weak.refl _,trivial⟩) f8 (f9.weak ⟨Weak.refl _,wd,Weak.refl _,trivial⟩) (hS.xB (dG (aT 0 _)) (.str _) (hE [meO]))) fun e7 H7 h8=>Zi h8
end Go.Ag
/- Package cupellaw09: SubShapes. -/
namespace Go.Ag
open Go
variable {T : Tab} {L : Lnk}
end Go.Ag
/- Package types: the library's CompactFunc of keyed types, walked. -/
namespace Go.Ag
open Go
variable {T : Tab} {L : Lnk}
def zkv :au:=.agg [.int .i64 0,.str [],.lst [] .nil,.lst [] .nil,.str []]
structure DStep (xs A:List (TA×Bytes)) (p m:Nat):Prop where
 len:A.length=xs.length
 front:A.take m=gu (xs.take p)
 Zj:m=(gu (xs.take p)).length
 pos:1≤p
 lt:m<p
 back:A.drop (p-1)=xs.drop (p-1)
theorem DStep.at {xs A:List (TA×Bytes)} {p m:Nat} (h:DStep xs A p m) {j:Nat} (h1:p-1≤j):A[j]?=xs[j]?:=by
 have e1:A[j]?=(A.drop (p-1))[j-(p-1)]?:=by rw[List.getElem?_drop];congr 1;omega
 have e2:xs[j]?=(xs.drop (p-1))[j-(p-1)]?:=by rw[List.getElem?_drop];congr 1;omega
 rw[e1,e2,h.back]
theorem DStep.skip {xs A:List (TA×Bytes)} {p m:Nat} (h:DStep xs A p m) (hp:p<xs.length) (he:(xs[p].2==(xs[p-1]'(by omega)).2)=true):DStep xs A (p+1) m:=by
 have h1:=wR xs p h.pos hp;rw[if_pos he,List.append_nil]at h1;refine⟨h.len,by rw[h1];exact h.front,by rw[h1];exact h.Zj,by omega,by have:=h.lt;omega,?_⟩;have e1:A.drop p=(A.drop (p-1)).drop 1:=by rw[List.drop_drop];congr 1;have:=h.pos;omega
 have e2:xs.drop p=(xs.drop (p-1)).drop 1:=by rw[List.drop_drop];congr 1;have:=h.pos;omega
 show A.drop p=xs.drop p;rw[e1,e2,h.back]
theorem DStep.take {xs A:List (TA×Bytes)} {p m:Nat} (h:DStep xs A p m) (hp:p<xs.length) (he:(xs[p].2==(xs[p-1]'(by omega)).2)=false):DStep xs (A.take m ++[xs[p]] ++A.drop (m+1)) (p+1) (m+1):=by
 have h1:=wR xs p h.pos hp;rw[if_neg (by rw[he];simp)]at h1;have hlt:=h.lt;have hlen:=h.len;have hml:(A.take m).length=m:=by rw[List.length_take];omega
 have e0:(A.take m ++[xs[p]]).length=m+1:=by simp[hml]
 refine⟨by simp;omega,?_,by rw[h1,List.length_append,←h.Zj];rfl,by omega,by omega,?_⟩
 ·rw[List.take_append_of_le_length (by omega),List.take_of_length_le (by omega),h1,h.front]
 ·show List.drop p _=List.drop p xs
  rw[List.drop_append,List.drop_of_length_le (by omega:(A.take m ++[xs[p]]).length≤p),List.nil_append,e0,List.drop_drop];have e1:A.drop p=(A.drop (p-1)).drop 1:=by rw[List.drop_drop];congr 1;have:=h.pos;omega
  have e2:xs.drop p=(xs.drop (p-1)).drop 1:=by rw[List.drop_drop];congr 1;have:=h.pos;omega
  rw[show m+1+(p-(m+1))=p from by omega,e1,e2,h.back]
theorem WK (n:Nat):Low n zkv:=.agg _ (gB.at ⟨.int _ _,.str _,.lst _ _ trivial (by simp),.lst _ _ trivial (by simp),.str _,trivial⟩)
theorem Zc (u:TA×Bytes):okB 5 (au.agg (kv u).cells)=true:=by
 obtain⟨⟨k,nm,ns,l⟩,s⟩:=u;rfl
theorem ZG {xs A:List (TA×Bytes)} {n t m r:Nat} (hr:m+(r+1)=n) (hA:A.length=n) (hf:A.take m=gu xs):
  IX 5 (.agg [.int .i64 0,.str [],.lst [] .nil,.lst [] .nil,.str []]) [.arr n (kvs A) t] (.vec 0 n 5 (0+m) (r+1))=some [.arr n (kvs (gu xs) ++List.replicate (r+1) zkv) t]:=by
 rw[Nat.zero_add,IX];simp only[List.getElem?_cons_zero];rw[if_pos ⟨trivial,trivial,by rw[jM];omega,by rw[List.all_eq_true];exact fun y hy=>by simpa using vO A y hy⟩];have e1:(kvs A).take m=kvs (gu xs):=by rw[←hf];simp[kvs,List.map_take]
 have e2:(kvs A).drop (m+(r+1))=[]:=List.drop_of_length_le (by rw[jM];omega);rw[e1,e2,List.append_nil];rfl
theorem sub1 {k:Nat} (h1:1≤k) (h:k<9223372036854775808):IntKind.i64.wrap ((k:Int)-1)=((k-1:Nat):Int):=by
 rw[IntWalk.i64_in _ (by omega)];omega
theorem IV (F:zN T) (xs:List (TA×Bytes)) (n t:Nat) (hn:n=xs.length) (hne:xs≠[]) (hl:n≤2^40):
  aC T.L 255 [.vec 0 n 5 0 n,.fn (.func 256) [] []] [.arr n (kvs xs) t] fun r H'=>r=.ret (.vec 0 n 5 0 (gu xs).length)∧∃rest J:List _,(∀x∈rest,Low 0 x∧x.cells.length=5)∧(gu xs).length+rest.length=n∧H'=[.arr n (kvs (gu xs) ++rest) t] ++J:=by
 have heq:=Ue F.IG;have hpos:0<xs.length:=List.length_pos_iff.2 hne;have hk5:=vO xs;refine aG F.TH (by simp[Pf]) ?_;conv=>whnf
 have e2:((n:Int)<2)=(n<2):=by apply propext;omega
 cases hn2:decide ((n:Int)<2)
 ·have hn2':2≤n:=by simp at hn2;omega
  conv=>whnf
  intro I hI hG
  have key:∀(d i:Nat) (e:Env),n-i=d→1≤i→i≤n→gu (xs.take i)=xs.take i→I (fO e [(0,.vec 0 n 5 0 n),(1,.fn (.func 256) [] []),(5,.int .i64 i)]) [.arr n (kvs xs) t]:=by
   intro d
   induction d with
   |zero=>
    intro i e hd h1 hi Ng;apply hI;conv=>whnf
    rw[bV (by omega)];conv=>whnf
    have:xs.take i=xs:=List.take_of_length_le (by omega);rw[this]at Ng;refine⟨?_,[],[],(by simp),?_,?_⟩
    ·rw[Ng,←hn];rfl
    ·rw[Ng,hn];rfl
    ·rw[Ng,List.append_nil,List.append_nil]
   |succ d ihd=>
    intro i e hd h1 hi Ng;have hin:i<n:=by omega
    have hix:i<xs.length:=by omega
    apply hI;conv=>whnf
    rw[dA hin];conv=>whnf
    refine⟨⟨Int.natCast_nonneg _,by omega,rfl⟩,?_⟩;conv=>whnf
    rw[sub1 h1 (by omega)];refine⟨⟨Int.natCast_nonneg _,by omega,rfl⟩,?_⟩;conv=>whnf
    have ha:(0+((i:Nat):Int).toNat)*5=i*5:=by simp
    have hb:(0+((i-1:Nat):Int).toNat)*5=(i-1)*5:=by simp
    rw[ha,hb];have hgi:(kvs xs)[i]?=some (kv xs[i]):=by simp[kvs,List.getElem?_map,List.getElem?_eq_getElem hix]
    have hgj:(kvs xs)[i-1]?=some (kv (xs[i-1]'(by omega))):=by simp[kvs,List.getElem?_map,List.getElem?_eq_getElem (show i-1<xs.length by omega)]
    have hsn:(xs[i].2==(xs[i-1]'(by omega)).2)=false→gu (xs.take (i+1))=xs.take (i+1):=fun he=>by
     have h2:=wR xs i h1 hix;rw[if_neg (by rw[he];simp),Ng]at h2;rw[h2,List.take_succ_eq_append_getElem hix]
    have hq:=heq xs[i] (xs[i-1]'(by omega))
    have hsk:(xs[i].2==(xs[i-1]'(by omega)).2)=true→DStep xs xs (i+1) i:=fun he=>by
     have h2:=wR xs i h1 hix;rw[if_pos he,List.append_nil,Ng]at h2;exact⟨rfl,h2.symm,by rw[h2,List.length_take];omega,by omega,by omega,rfl⟩
    generalize xs[i]=u at hgi hsn hq hsk;generalize xs[i-1]'(by omega)=w at hgj hsn hq hsk;refine nI (wK rfl hk5 hgi) ?_;conv=>whnf
    refine nI (wK rfl hk5 hgj) ?_;conv=>whnf
    refine hq.to ?_;conv=>whnf
    have hi1:i+1<9223372036854775808:=by omega
    cases huw:(u.2==w.2)
    ·conv=>whnf
     exact hG.keep [(0,.vec 0 n 5 0 n),(1,.fn (.func 256) [] []),(5,.int .i64 (i+1:Nat))] [.arr n (kvs xs) t] (Nat.le_refl 1) rfl ⟨rfl,rfl,add1 hi1,trivial⟩
      ⟨.vec _ _ _ _ _ (by decide:0<1),.fn _ _ _ fP fP,.int _ _,trivial⟩ ⟨kS 1 xs,trivial⟩ (ihd (i+1) _ (by omega) (by omega) (by omega) (hsn huw))
    ·have hst:=hsk huw
     clear hsk hsn hq ihd hgi hgj ha hb huw;conv=>whnf
     refine⟨⟨by omega,by omega,by omega,rfl⟩,?_⟩;conv=>whnf
     rw[Int.toNat_natCast];intro J hJ hGJ
     have keyI:∀(d k m:Nat) (A:List (TA×Bytes)) (e:Env),n-(i+k)=d→1≤k→i+k≤n→DStep xs A (i+k) m→J (fO e [(0,.vec 0 n 5 0 n),(1,.fn (.func 256) [] []),(5,.int .i64 m),(6,.vec 0 n 5 i (n-i)),(7,.int .i64 k)]) [.arr n (kvs A) t]:=by
      intro d
      induction d with
      |zero=>
       intro k m A e hd hk1 hk hst;apply hJ;conv=>whnf
       rw[bV (by omega)];conv=>whnf
       have hmn:m<n:=by have:=hst.lt;omega
       obtain⟨r,hr⟩:∃r,n-m=r+1:=⟨n-m-1,by omega⟩;refine⟨⟨by omega,by omega,by omega,rfl⟩,?_⟩;conv=>whnf
       rw[Int.toNat_natCast,hr];conv=>whnf
       have hend:i+k=n:=by omega
       rw[hend]at hst;have hxt:xs.take n=xs:=List.take_of_length_le (by omega);have hfr:=hst.front;have hm:=hst.Zj;rw[hxt]at hfr hm;rw[ZG (by omega) (by rw[hst.len];omega) hfr];conv=>whnf
       refine⟨⟨by omega,by omega,by omega,rfl⟩,?_⟩;conv=>whnf
       refine⟨by rw[←hm];rfl,List.replicate (r+1) zkv,[],fun x hx=>?_,by rw[List.length_replicate,←hm];omega,by rw[List.append_nil]⟩;rw[List.eq_of_mem_replicate hx];exact⟨WK 0,rfl⟩
      |succ d ihd=>
       intro k m A e hd hk1 hk hst;apply hJ;conv=>whnf
       rw[dA (by omega)];conv=>whnf
       have hpx:i+k<xs.length:=by omega
       have hA5:=vO A;have hAl:=hst.len;have hlt:=hst.lt;refine⟨⟨Int.natCast_nonneg _,by omega,rfl⟩,?_⟩;conv=>whnf
       rw[sub1 hk1 (by omega)];refine⟨⟨Int.natCast_nonneg _,by omega,rfl⟩,?_⟩;conv=>whnf
       have ha:(i+((k:Nat):Int).toNat)*5=(i+k)*5:=by simp
       have hb:(i+((k-1:Nat):Int).toNat)*5=(i+k-1)*5:=by rw[Int.toNat_natCast];congr 1;omega
       rw[ha,hb];have hgi:(kvs A)[i+k]?=some (kv xs[i+k]):=by simp[kvs,List.getElem?_map,hst.at (j:=i+k) (by omega),List.getElem?_eq_getElem hpx]
       have hgj:(kvs A)[i+k-1]?=some (kv (xs[i+k-1]'(by omega))):=by simp[kvs,List.getElem?_map,hst.at (j:=i+k-1) (by omega),List.getElem?_eq_getElem (show i+k-1<xs.length by omega)]
       have hq:=heq xs[i+k] (xs[i+k-1]'(by omega));have KA:=hst.skip hpx;have htake:=hst.take hpx;generalize xs[i+k]=u at hgi hq KA htake;generalize xs[i+k-1]'(by omega)=w at hgj hq KA htake;refine nI (wK rfl hA5 hgi) ?_;conv=>whnf
       refine nI (wK rfl hA5 hgj) ?_;conv=>whnf
       refine hq.to ?_;conv=>whnf
       have hk1':k+1<9223372036854775808:=by omega
       have hm1':m+1<9223372036854775808:=by omega
       cases huw:(u.2==w.2)
       ·have hst':=htake huw
        conv=>whnf
        refine⟨⟨Int.natCast_nonneg _,by omega,rfl⟩,?_⟩;conv=>whnf
        rw[ha];refine nI (wK rfl hA5 hgi) ?_;conv=>whnf
        refine⟨⟨Int.natCast_nonneg _,by omega,rfl⟩,?_⟩;conv=>whnf
        rw[Zc u,show(0+((m:Nat):Int).toNat)*5=m*5 from by simp,R8 (H:=[.arr n (kvs A) t]) (x:=.agg (kv u).cells) (i:=m) rfl hA5 (Ga u) (by rw[jM];omega)];rw[show(kvs A).take m ++[au.agg (kv u).cells] ++(kvs A).drop (m+1)=kvs (A.take m ++[u] ++A.drop (m+1))from by simp[kvs,List.map_take,List.map_drop];rfl];generalize A.take m ++[u] ++A.drop (m+1)=A' at hst'⊢;conv=>whnf
        exact hGJ.keep [(0,.vec 0 n 5 0 n),(1,.fn (.func 256) [] []),(5,.int .i64 (m+1:Nat)),(6,.vec 0 n 5 i (n-i)),(7,.int .i64 (k+1:Nat))] [.arr n (kvs A') t] (Nat.le_refl 1) rfl ⟨rfl,rfl,add1 hm1',rfl,add1 hk1',trivial⟩
         ⟨.vec _ _ _ _ _ (by decide:0<1),.fn _ _ _ fP fP,.int _ _,.vec _ _ _ _ _ (by decide:0<1),.int _ _,trivial⟩ ⟨kS 1 A',trivial⟩ (ihd (k+1) (m+1) A' _ (by omega) (by omega) (by omega) hst')
       ·have hst':=KA huw
        conv=>whnf
        exact hGJ.keep [(0,.vec 0 n 5 0 n),(1,.fn (.func 256) [] []),(5,.int .i64 m),(6,.vec 0 n 5 i (n-i)),(7,.int .i64 (k+1:Nat))] [.arr n (kvs A) t] (Nat.le_refl 1) rfl ⟨rfl,rfl,rfl,rfl,add1 hk1',trivial⟩
         ⟨.vec _ _ _ _ _ (by decide:0<1),.fn _ _ _ fP fP,.int _ _,.vec _ _ _ _ _ (by decide:0<1),.int _ _,trivial⟩ ⟨kS 1 A,trivial⟩ (ihd (k+1) m A _ (by omega) (by omega) (by omega) hst')
     exact inv_of [(0,.vec 0 n 5 0 n),(1,.fn (.func 256) [] []),(5,.int .i64 i),(6,.vec 0 n 5 i (n-i)),(7,.int .i64 (1:Nat))] ⟨rfl,rfl,rfl,by rw[Nat.zero_add]<;>rfl,rfl,trivial⟩ (keyI _ 1 i xs _ rfl (Nat.le_refl 1) (by omega) hst)
  exact inv_of [(0,.vec 0 n 5 0 n),(1,.fn (.func 256) [] []),(5,.int .i64 (1:Nat))] ⟨rfl,rfl,rfl,trivial⟩ (key _ 1 _ rfl (Nat.le_refl 1) (by omega) (by cases xs with
   |nil=>cases hne rfl
   |cons x l=>rfl))
 ·have hn1:n=1:=by simp at hn2;omega
  conv=>whnf
  obtain⟨x,rfl⟩:∃x,xs=[x]:=List.length_eq_one_iff.1 (by omega);refine⟨by rw[hn1];rfl,[],[],by simp,by rw[hn1];rfl,by rw[List.append_nil,List.append_nil];rfl⟩
theorem E5 (F:zN T) (xs:List (TA×Bytes)) (n t:Nat) (hn:n=xs.length) (hne:xs≠[]) (hl:n≤2^40):
  aC T.L 255 [.vec 0 n 5 0 n,.fn (.func 256) [] []] [.arr n (kvs xs) t] fun r H'=>r=.ret (.vec 0 n 5 0 (gu xs).length)∧∃rest:List _,(∀x∈rest,Low 0 x∧x.cells.length=5)∧(gu xs).length+rest.length=n∧H'=[.arr n (kvs (gu xs) ++rest) t]:=by
 refine(aC.gcR (Q:=fun r H'=>r=.ret (.vec 0 n 5 0 (gu xs).length)∧∃rest:List _,(∀x∈rest,Low 0 x∧x.cells.length=5)∧(gu xs).length+rest.length=n∧H'=[.arr n (kvs (gu xs) ++rest) t]) ((IV F xs n t hn hne hl).mono fun r' H' ⟨e1,rest,J,hr,hlen,e2⟩=>⟨.ret (.vec 0 n 5 0 (gu xs).length),_,[.arr n (kvs (gu xs) ++rest) t],J,e2,by rw[e1];exact Weak.refl _,.vec _ _ _ _ _ (by decide:0<1),rfl,rfl,fun i o o' h1 h2=>by rw[h1]at h2;cases h2;exact bM.refl o,fG.at ⟨fun x hx=>?_,trivial⟩,rfl,rest,hr,hlen,rfl⟩)).mono fun r H' ⟨_,e1,q⟩=>⟨e1,q⟩
 rcases List.mem_append.1 hx with hx|hx
 ·exact kS 1 _ x hx
 ·exact(hr x hx).1.mono (Nat.zero_le 1)
theorem IW (F:zN T) (xs:List (TA×Bytes)) (n id t:Nat) (H:Heap) (hH:H[id]?=some (.arr n (kvs xs) t)) (hn:n=xs.length) (hne:xs≠[]) (hl:n≤2^40):
  aC T.L 255 [.vec id n 5 0 n,.fn (.func 256) [] []] H fun r H'=>r=.ret (.vec id n 5 0 (gu xs).length)∧∃rest:List au,(∀x∈rest,Low 0 x∧x.cells.length=5)∧(gu xs).length+rest.length=n∧H'=H.set id (.arr n (kvs (gu xs) ++rest) t):=by
 have q0:iq (nameOf [id] H.length) (.arr n (kvs xs) t)=.arr n (kvs xs) t:=gN (show bI 0 (.arr n (kvs xs) t)from kS 0 xs)
 have hp:Part H [id] [.arr n (kvs xs) t]:=by
  refine⟨by simp,rfl,fun k i o hk ho=>?_⟩
  match k,hk,ho with
  |0,hk,ho=>cases hk;cases ho;rw[q0];exact hH
  |k+1,hk,ho=>cases hk
 have hf:=aC.mZ (E5 F xs n t hn hne hl) [id] hp (.inr fun r H' ⟨_,rest,_,_,e⟩=>by rw[e];exact Nat.le_refl 1);refine hf.mono fun r H' ⟨r1,H1',⟨e1,rest,hr,hlen,e2⟩,_,e3,e4⟩=>?_
 subst e1 e2;refine⟨e3,rest,hr,hlen,?_⟩
 have q1:iq (nameOf [id] H.length) (.arr n (kvs (gu xs) ++rest) t)=.arr n (kvs (gu xs) ++rest) t:=gN (show bI 0 (.arr n (kvs (gu xs) ++rest) t)from fun x hx=>by
  rcases List.mem_append.1 hx with hx|hx
  ·exact kS 0 _ x hx
  ·exact(hr x hx).1)
 rw[e4];simp only[List.length_cons,List.length_nil,List.take_succ_cons,List.take_zero,List.drop_succ_cons,List.drop_zero,List.map_cons,List.map_nil,List.append_nil,mE];exact congrArg (H.set id) q1
theorem E8 (F:zN T) (H:Heap):aC T.L 255 [.lst [] .nil,.fn (.func 256) [] []] H fun r H'=>r=.ret (.lst [] .nil)∧H'=H:=by
 have h0:Pure T.L 255 [.lst [] .nil,.fn (.func 256) [] []] (.lst [] .nil):=by
  refine Pure.run (gB.at ⟨.lst _ _ trivial (by simp),.fn _ _ _ fP fP,trivial⟩) (.lst _ _ trivial (by simp)) (aG F.TH (by simp[Pf]) ?_);conv=>whnf
  exact aH (Weak.refl _)
 exact h0 H
end Go.Ag

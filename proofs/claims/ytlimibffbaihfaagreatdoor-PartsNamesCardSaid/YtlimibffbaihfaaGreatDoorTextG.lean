/- Our texts, joined by a program of ours (join.py): part 7 of 9. -/
import Derived.Test.YtlimibffbaihfaaGreatDoorTextF
import Derived.KernelRfl
set_option linter.unusedVariables false
/- Package sub: BinarySearch of names. -/
namespace Go.Ag
open Go
variable {T : Tab} {L : Lnk}
def uQ (ns:List Bytes) (nm:Bytes):Nat:=(ns.takeWhile fun s=>decide (s<nm)).length
theorem ND (ns:List Bytes) (nm:Bytes):uQ ns nm≤ns.length:=(List.takeWhile_sublist _).length_le
theorem GV {ns:List Bytes} {nm:Bytes} (hs:ns.Pairwise (· < ·)) {k:Nat} (hk:k<ns.length):ns[k]<nm↔k<uQ ns nm:=by
 induction ns generalizing k with
 |nil=>cases hk
 |cons s ns ih=>
  obtain⟨h1,h2⟩:=List.pairwise_cons.1 hs;unfold uQ;rw[List.takeWhile_cons]
  by_cases hlt:s<nm
  ·simp only[hlt,decide_true,if_true,List.length_cons]
   cases k with
   |zero=>simp[hlt]
   |succ k=>
    have:=ih h2 (k:=k) (by simpa using hk);unfold uQ at this;simp only[List.getElem_cons_succ];rw[this];omega
  ·simp only[hlt,decide_false,Bool.false_eq_true,if_false,List.length_nil]
   refine⟨fun h=>?_,fun h=>by omega⟩
   cases k with
   |zero=>exact absurd h hlt
   |succ k=>
    simp only[List.getElem_cons_succ]at h;exact absurd (List.lt_trans (h1 _ (List.getElem_mem _)) h) hlt
theorem CQ {ns:List Bytes} {nm:Bytes} (hs:ns.Pairwise (· < ·)):ns[uQ ns nm]?=some nm↔nm∈ns:=by
 refine⟨fun h=>List.mem_of_getElem? h,fun h=>?_⟩;obtain⟨k,hk,rfl⟩:=List.getElem_of_mem h
 have hle:uQ ns ns[k]≤k:=by
  rcases Nat.lt_or_ge k (uQ ns ns[k])with h'|h'
  ·exact absurd ((GV hs hk).2 h') (List.lt_irrefl _)
  ·exact h'
 have hge:k≤uQ ns ns[k]:=by
  rcases Nat.lt_or_ge (uQ ns ns[k]) k with h'|h'
  ·have hlt:uQ ns ns[k]<ns.length:=by omega
   have:=List.pairwise_iff_getElem.1 hs _ _ hlt hk h';have:=(GV hs hlt).1 this;omega
  ·exact h'
 have:uQ ns ns[k]=k:=by omega
 rw[this,List.getElem?_eq_getElem hk]
theorem Yc {i j:Nat} (h:i+j≤2^50):IntKind.i64.wrap ((IntKind.u64.wrap (IntKind.i64.wrap ((i:Int)+(j:Int)))).fdiv (2^min (Int.toNat 1) IntKind.u64.bits))=((i+j)/2:Nat):=by
 have e1:IntKind.i64.wrap ((i:Int)+(j:Int))=((i+j:Nat):Int):=by rw[IntWalk.i64_in _ (by omega)];omega
 rw[e1]
 have e2:IntKind.u64.wrap ((i+j:Nat):Int)=((i+j:Nat):Int):=by
  simp only[IntKind.wrap,IntKind.signed,IntKind.bits];simp;omega
 rw[e2]
 have e3:(((i+j:Nat):Int)).fdiv (2^min (Int.toNat 1) IntKind.u64.bits)=(((i+j)/2:Nat):Int):=by
  rw[show(2:Int)^min (Int.toNat 1) IntKind.u64.bits=((2:Nat):Int)from rfl,Int.ofNat_fdiv]
 rw[e3];exact IntWalk.i64_in _ (by omega)
theorem H6 (PY:T.has 197 Ot) (JZ:T.has 234 KG) (JY:T.has 235 KF) (Ei:T.has 267 FT) (ns:List Bytes) (nm:Bytes) (hs:ns.Pairwise (· < ·)) (hl:ns.length≤2^40):
  Pure T.L 197 [.lst (aJ ns) .none,.str nm] (.tup [.int .i64 (uQ ns nm:Nat),.bool (decide (nm∈ns))]):=by
 refine Pure.run (gD.at ⟨dS _ _ _ trivial,.str _,trivial⟩) (.tup _ (gD.at ⟨.int _ _,.bool _,trivial⟩)) (aG PY (by simp[Ot]) ?_);have hless:=Pq JZ Ei;have hnan:=JI JY;have hlo:=ND ns nm;have hlt:=fun k hk=>GV (nm:=nm) hs (k:=k) hk
 have hhas:=CQ (nm:=nm) hs;generalize uQ ns nm=lo at hlo hlt hhas⊢;conv=>whnf
 intro I hI hG
 have key:∀(d i j:Nat) (e:Env),j-i=d→i≤lo→lo≤j→j≤ns.length→I (fZ e [(0,.lst (aJ ns) .none),(1,.str nm),(6,.int .i64 ns.length),(7,.int .i64 i),(8,.int .i64 j)]) []:=by
  intro d
  induction d using Nat.strongRecOn with
  |ind d ih=>
   intro i j e hd hi hj hjn;apply hI;conv=>whnf
   by_cases hij:i<j
   ·have hh:(i+j)/2<ns.length:=by omega
    rw[cO hij];conv=>whnf
    rw[Yc (by omega)];have hm1:i≤(i+j)/2:=by omega
    have hm2:(i+j)/2<j:=by omega
    generalize (i+j)/2=m at hh hm1 hm2⊢
    have hget:(aJ ns)[((m:Nat):Int).toNat]?=some (.str ns[m]):=by
     rw[Int.toNat_natCast];simp[aJ,List.getElem?_map,List.getElem?_eq_getElem hh]
    have hq:=hlt m hh;generalize ns[m]=s at hget hq;refine step_elem (Int.natCast_nonneg _) hget rfl ?_;conv=>whnf
    refine(hless s nm).to ?_;conv=>whnf
    have hm3:m+1<9223372036854775808:=by omega
    by_cases hb:s<nm
    ·rw[decide_eq_true hb]
     have:=hq.1 hb;conv=>whnf
     exact hG.keep [(0,.lst (aJ ns) .none),(1,.str nm),(6,.int .i64 ns.length),(7,.int .i64 (m+1:Nat)),(8,.int .i64 j)] [] (Nat.le_refl 0) rfl ⟨rfl,rfl,rfl,add1 hm3,rfl,trivial⟩
      ⟨dS _ _ _ trivial,.str _,.int _ _,.int _ _,.int _ _,trivial⟩ trivial (ih (j-(m+1)) (by omega) (m+1) j _ rfl (by omega) hj hjn)
    ·rw[decide_eq_false hb]
     have:lo≤m:=by
      rcases Nat.lt_or_ge m lo with h'|h'
      ·exact absurd (hq.2 h') hb
      ·exact h'
     conv=>whnf
     exact hG.keep [(0,.lst (aJ ns) .none),(1,.str nm),(6,.int .i64 ns.length),(7,.int .i64 i),(8,.int .i64 m)] [] (Nat.le_refl 0) rfl ⟨rfl,rfl,rfl,rfl,rfl,trivial⟩
      ⟨dS _ _ _ trivial,.str _,.int _ _,.int _ _,.int _ _,trivial⟩ trivial (ih (m-i) (by omega) i m _ rfl hi (by omega) (by omega))
   ·have hil:i=lo:=by omega
    subst hil;rw[bQ (by omega)];conv=>whnf
    by_cases hn:i<ns.length
    ·rw[cO hn]
     have hget:(aJ ns)[((i:Nat):Int).toNat]?=some (.str ns[i]):=by
      rw[Int.toNat_natCast];simp[aJ,List.getElem?_map,List.getElem?_eq_getElem hn]
     rw[List.getElem?_eq_getElem hn,Option.some_inj]at hhas;generalize ns[i]=s at hget hhas;conv=>whnf
     refine step_elem (Int.natCast_nonneg _) hget rfl ?_;conv=>whnf
     cases hb:(s==nm)
     ·conv=>whnf
      refine step_elem (Int.natCast_nonneg _) hget rfl ?_;conv=>whnf
      refine(hnan s).to ?_;conv=>whnf
      have:decide (nm∈ns)=false:=decide_eq_false fun h=>by rw[hhas.2 h]at hb;simp at hb
      rw[this];exact aH (Weak.refl _)
     ·conv=>whnf
      have:decide (nm∈ns)=true:=decide_eq_true (hhas.1 (by simpa using hb));rw[this];exact aH (Weak.refl _)
    ·rw[bQ (by omega)]
     conv=>whnf
     have:decide (nm∈ns)=false:=decide_eq_false fun h=>by
      have:=hhas.2 h;rw[List.getElem?_eq_none (by omega)]at this;cases this
     rw[this];exact aH (Weak.refl _)
 exact inv_of [(0,.lst (aJ ns) .none),(1,.str nm),(6,.int .i64 ns.length),(7,.int .i64 0),(8,.int .i64 ns.length)] ⟨rfl,rfl,by show au.int .i64 ((aJ ns).length:Nat)=_;rw[cK],rfl,by show au.int .i64 ((aJ ns).length:Nat)=_;rw[cK],trivial⟩ (key _ 0 ns.length _ rfl (Nat.zero_le _) hlo (Nat.le_refl _))
end Go.Ag
/- Package sub: ContainsFunc with a judge in hand. -/
namespace Go.Ag
open Go
variable {T : Tab} {L : Lnk}
variable {σ : Type}
end Go.Ag
/- Package sub: the judge. -/
namespace Go.Ag
open Go
variable {T : Tab} {L : Lnk}
section
variable (hd : TA → List TA) (tx : TA → Bytes) (loose : Bool)
end
end Go.Ag
/- A type's text tells it. -/
namespace Go.Ag
open Go
def jM (s:Bytes):Prop:=s≠[]∧(∀c∈s,inA c bV=true)∧s≠G6∧s≠yP∧s≠yO
inductive RT :TA→Prop where
 |int:RT (.mk 1 [] [] [])
 |bool:RT (.mk 2 [] [] [])
 |text:RT (.mk 3 [] [] [])
 |dyn:RT (.mk 4 [] [] [])
 |rcd (ns:List Bytes) (l:List TA) (hs:ns.Pairwise (· < ·)) (hl:ns.length=l.length) (hn:∀n∈ns,jM n) (h:∀t∈l,RT t):RT (.mk 5 [] ns l)
 |fn (a b:TA) (ha:RT a) (hb:RT b):RT (.mk 6 [] [] [a,b])
 |uni (l:List TA) (h2:2≤l.length) (h:∀t∈l,RT t) (h7:∀t∈l,t.kind≠7):RT (.mk 7 [] [] l)
 |ref (nm:Bytes) (h:jM nm):RT (.mk 8 nm [] [])
def D2 (r:Bytes):Prop:=∀c z,r=c::z→inA c bV=false
def D1 (r:Bytes):Prop:=D2 r∧∀z,r≠32::45::62::32::z
def D0 (r:Bytes):Prop:=D1 r∧∀z,r≠32::124::32::z
def C2 (a:TA):Prop:=∀b r r',RT b→prT a 2 ++r=prT b 2 ++r'→D2 r→D2 r'→a=b∧r=r'
def C1 (a:TA):Prop:=∀b r r',RT b→prT a 1 ++r=prT b 1 ++r'→D1 r→D1 r'→a=b∧r=r'
def C0 (a:TA):Prop:=∀b r r',RT b→prT a 0 ++r=prT b 0 ++r'→D0 r→D0 r'→a=b∧r=r'
theorem sN (lv:Nat):prT (.mk 1 [] [] []) lv=G6:=by rw[prT];rfl
theorem oP (lv:Nat):prT (.mk 2 [] [] []) lv=yP:=by rw[prT];rfl
theorem qG (lv:Nat):prT (.mk 3 [] [] []) lv=yO:=by rw[prT];rfl
theorem sO (lv:Nat):prT (.mk 4 [] [] []) lv=[63]:=by rw[prT];rfl
theorem xB (ns:List Bytes) (l:List TA) (lv:Nat):prT (.mk 5 [] ns l) lv=[123] ++iQ [44,32] (nE ns (prL l 0)) ++[125]:=by rw[prT];rfl
theorem EP (a b:TA) (lv:Nat):prT (.mk 6 [] [] [a,b]) lv=LW (prT a 2 ++[32,45,62,32] ++prT b 1) (decide (2≤lv)):=by rw[prT];simp[prL]
theorem zF (l:List TA) (h:l≠[]) (lv:Nat):prT (.mk 7 [] [] l) lv=LW (iQ [32,124,32] (prL l 1)) (decide (1≤lv)):=by
 rw[prT];simp only[show¬(7:Int)=1 by decide,show¬(7:Int)=2 by decide,show¬(7:Int)=3 by decide,show¬(7:Int)=4 by decide,show¬(7:Int)=5 by decide,show¬(7:Int)=6 by decide,if_false,if_true];rw[if_neg];intro h0;exact h (List.eq_nil_of_length_eq_zero h0)
theorem uJ (nm:Bytes) (lv:Nat):prT (.mk 8 nm [] []) lv=nm:=by rw[prT];rfl
theorem Ga :∀{w w' r r':Bytes},(∀c∈w,inA c bV=true)→(∀c∈w',inA c bV=true)→D2 r→D2 r'→w ++r=w' ++r'→w=w'∧r=r'
 |[],[],r,r',_,_,_,_,e=>⟨rfl,e⟩
 |[],c::w',r,r',_,h',hr,_,e=>by
  have:=hr c (w' ++r') e;rw[h' c (by simp)]at this;cases this
 |c::w,[],r,r',h,_,_,hr',e=>by
  have:=hr' c (w ++r) e.symm;rw[h c (by simp)]at this;cases this
 |c::w,d::w',r,r',h,h',hr,hr',e=>by
  simp only[List.cons_append,List.cons.injEq]at e;obtain⟨rfl,e⟩:=e;obtain⟨e1,e2⟩:=Ga (fun x hx=>h x (by simp[hx])) (fun x hx=>h' x (by simp[hx])) hr hr' e;exact⟨by rw[e1],e2⟩
inductive Beg :TA→Prop where
 |word (t:TA) (k:t.kind=1∨t.kind=2∨t.kind=3∨t.kind=8) (hne:prT t 2≠[]) (h:∀c∈prT t 2,inA c bV=true):Beg t
 |dyn:Beg (.mk 4 [] [] [])
 |rcd (ns:List Bytes) (l:List TA) (z:Bytes) (h:prT (.mk 5 [] ns l) 2=123::z):Beg (.mk 5 [] ns l)
 |par (t:TA) (k:t.kind=6∨t.kind=7) (h:prT t 2=40::(prT t 0 ++[41])):Beg t
theorem beg {t:TA} (h:RT t):Beg t:=by
 cases h with
 |int=>exact .word _ (.inl rfl) (by rw[sN];decide) (by rw[sN];decide)
 |bool=>exact .word _ (.inr (.inl rfl)) (by rw[oP];decide) (by rw[oP];decide)
 |text=>exact .word _ (.inr (.inr (.inl rfl))) (by rw[qG];decide) (by rw[qG];decide)
 |dyn=>exact .dyn
 |rcd ns l=>exact .rcd ns l _ (by rw[xB];rfl)
 |fn a b=>exact .par _ (.inl rfl) (by rw[EP,EP];rfl)
 |uni l h2=>exact .par _ (.inr rfl) (by
   have:l≠[]:=by rintro rfl;simp at h2
   rw[zF _ this,zF _ this];rfl)
 |ref nm h=>exact .word _ (.inr (.inr (.inr rfl))) (by rw[uJ];exact h.1) (by rw[uJ];exact h.2.1)
theorem jZ {w z r:Bytes} (hne:w≠[]) (h:∀c∈w,inA c bV=true) {c:UInt8} (hc:inA c bV=false):w ++r≠c::z:=by
 cases w with
 |nil=>exact absurd rfl hne
 |cons d w=>
  intro e;simp only[List.cons_append,List.cons.injEq]at e;rw[←e.1,h d (by simp)]at hc;cases hc
theorem F6 {c:UInt8} {z:Bytes} (h:inA c bV=false):D2 (c::z):=fun d y e=>by cases e;exact h
theorem D1_of {c:UInt8} {z:Bytes} (h:inA c bV=false) (hc:c≠32):D1 (c::z):=⟨F6 h,fun y e=>hc (by cases e;rfl)⟩
theorem KX {c:UInt8} {z:Bytes} (h:inA c bV=false) (hc:c≠32):D0 (c::z):=⟨D1_of h hc,fun y e=>hc (by cases e;rfl)⟩
theorem X5 {t:TA} (h:RT t) (h6:t.kind≠6):prT t 1=prT t 2:=by
 cases h with
 |int=>rw[sN,sN]
 |bool=>rw[oP,oP]
 |text=>rw[qG,qG]
 |dyn=>rw[sO,sO]
 |rcd=>rw[xB,xB]
 |fn=>exact absurd rfl h6
 |uni l h2=>
  have:l≠[]:=by rintro rfl;simp at h2
  rw[zF _ this,zF _ this];rfl
 |ref=>rw[uJ,uJ]
theorem X6 {t:TA} (h:RT t) (h7:t.kind≠7):prT t 0=prT t 1:=by
 cases h with
 |int=>rw[sN,sN]
 |bool=>rw[oP,oP]
 |text=>rw[qG,qG]
 |dyn=>rw[sO,sO]
 |rcd=>rw[xB,xB]
 |fn=>rw[EP,EP];rfl
 |uni=>exact absurd rfl h7
 |ref=>rw[uJ,uJ]
theorem NR {t:TA} (h:RT t) (h6:t.kind=6):∃a b,t=.mk 6 [] [] [a,b]∧RT a∧RT b:=by
 cases h<;>first|(cases h6;done)|exact⟨_,_,rfl,by assumption,by assumption⟩
theorem Im {t:TA} (h:RT t) (h7:t.kind=7):∃q qs,t=.mk 7 [] [] (q::qs)∧qs≠[]∧(∀x∈q::qs,RT x)∧∀x∈q::qs,x.kind≠7:=by
 cases h with
 |uni l h2 h h7'=>
  match l,h2 with
  |q::p::qs,_=>exact⟨q,p::qs,rfl,by simp,h,h7'⟩
 |_=>cases h7
theorem LD (a b:TA):prT (.mk 6 [] [] [a,b]) 1=prT a 2 ++([32,45,62,32] ++prT b 1):=by rw[EP];show _ ++_ ++_=_;rw[List.append_assoc]
theorem qp {a:TA} (ha:RT a) (h6:a.kind≠6) (h:C2 a):C1 a:=fun b r r' hb e hr hr'=>by
 rw[X5 ha h6]at e
 by_cases hb6:b.kind=6
 ·obtain⟨b1,b2,rfl,k1,k2⟩:=NR hb hb6
  rw[LD,List.append_assoc]at e;obtain⟨_,e2⟩:=h b1 _ _ k1 e hr.1 (F6 (by decide));exact absurd e2 (by rw[List.append_assoc];exact hr.2 _)
 ·rw[X5 hb hb6]at e
  exact h b r r' hb e hr.1 hr'.1
theorem C1_fn {a1 a2:TA} (h1:C2 a1) (h2:C1 a2):C1 (.mk 6 [] [] [a1,a2]):=fun b r r' hb e hr hr'=>by
 rw[LD,List.append_assoc]at e
 by_cases hb6:b.kind=6
 ·obtain⟨b1,b2,rfl,k1,k2⟩:=NR hb hb6
  rw[LD]at e;simp only[List.append_assoc]at e;have hsp:∀z:Bytes,D2 ([32,45,62,32] ++z):=fun z=>F6 (by decide)
  obtain⟨rfl,e2⟩:=h1 b1 _ _ k1 e (hsp _) (hsp _);obtain⟨rfl,e3⟩:=h2 b2 r r' k2 (List.append_cancel_left e2) hr hr';exact⟨rfl,e3⟩
 ·rw[X5 hb hb6]at e
  obtain⟨_,e2⟩:=h1 b _ _ hb e (F6 (by decide)) hr'.1;exact absurd e2.symm (by rw[List.append_assoc];exact hr'.2 _)
def oK (qs:List TA):Bytes:=qs.flatMap fun q=>[32,124,32] ++prT q 1
theorem Fp (q:TA):∀qs:List TA,iQ [32,124,32] (prL (q::qs) 1)=prT q 1 ++oK qs
 |[]=>by rw[prL,prL];simp[iQ,oK]
 |p::qs=>by
  rw[prL,prL];have:=Fp p qs;rw[prL]at this;show prT q 1 ++[32,124,32] ++iQ [32,124,32] (prT p 1::prL qs 1)=_;rw[this];simp[oK,List.append_assoc]
theorem Gz (q:TA) (qs:List TA):prT (.mk 7 [] [] (q::qs)) 0=prT q 1 ++oK qs:=by rw[zF _ (by simp)];exact Fp q qs
theorem wG {qs:List TA} {r:Bytes} (hr:D0 r):D1 (oK qs ++r):=by
 cases qs with
 |nil=>exact hr.1
 |cons q qs=>exact⟨F6 (by decide),fun z e=>by simp[oK]at e⟩
theorem qw {a:TA} (ha:RT a) (h7:a.kind≠7) (h:C1 a):C0 a:=fun b r r' hb e hr hr'=>by
 rw[X6 ha h7]at e
 by_cases hb7:b.kind=7
 ·obtain⟨p,ps,rfl,hne,k1,k2⟩:=Im hb hb7
  rw[Gz,List.append_assoc]at e;obtain⟨_,e2⟩:=h p _ _ (k1 p (by simp)) e hr.1 (wG hr')
  cases ps with
  |nil=>exact absurd rfl hne
  |cons p' ps=>exact absurd e2 (by simp only[oK,List.flatMap_cons,List.append_assoc];exact hr.2 _)
 ·rw[X6 hb hb7]at e
  exact h b r r' hb e hr.1 hr'.1
theorem Nc :∀{qs ps:List TA} {r r':Bytes},(∀q∈qs,C1 q)→(∀p∈ps,RT p)→D0 r→D0 r'→oK qs ++r=oK ps ++r'→qs=ps∧r=r'
 |[],[],r,r',_,_,_,_,e=>⟨rfl,e⟩
 |[],p::ps,r,r',_,_,hr,_,e=>absurd e (by simp only[oK,List.flatMap_nil,List.nil_append,List.flatMap_cons,List.append_assoc];exact hr.2 _)
 |q::qs,[],r,r',_,_,_,hr',e=>absurd e.symm (by simp only[oK,List.flatMap_nil,List.nil_append,List.flatMap_cons,List.append_assoc];exact hr'.2 _)
 |q::qs,p::ps,r,r',hq,hp,hr,hr',e=>by
  have e1:prT q 1 ++(oK qs ++r)=prT p 1 ++(oK ps ++r'):=by
   simp only[oK,List.flatMap_cons,List.append_assoc]at e;have:=List.append_cancel_left e;simpa only[oK]using this
  obtain⟨rfl,e2⟩:=hq q (by simp) p _ _ (hp p (by simp)) e1 (wG hr) (wG hr');obtain⟨rfl,e3⟩:=Nc (fun x hx=>hq x (by simp[hx])) (fun x hx=>hp x (by simp[hx])) hr hr' e2;exact⟨rfl,e3⟩
theorem YZ {q:TA} {qs:List TA} (hne:qs≠[]) (h:∀x∈q::qs,C1 x):C0 (.mk 7 [] [] (q::qs)):=fun b r r' hb e hr hr'=>by
 rw[Gz,List.append_assoc]at e
 by_cases hb7:b.kind=7
 ·obtain⟨p,ps,rfl,hne',k1,k2⟩:=Im hb hb7
  rw[Gz,List.append_assoc]at e;obtain⟨rfl,e2⟩:=h q (by simp) p _ _ (k1 p (by simp)) e (wG hr) (wG hr');obtain⟨rfl,e3⟩:=Nc (fun x hx=>h x (by simp[hx])) (fun x hx=>k1 x (by simp[hx])) hr hr' e2;exact⟨rfl,e3⟩
 ·rw[X6 hb hb7]at e
  obtain⟨_,e2⟩:=h q (by simp) b _ _ hb e (wG hr) hr'.1
  cases qs with
  |nil=>exact absurd rfl hne
  |cons q' qs=>exact absurd e2.symm (by simp only[oK,List.flatMap_cons,List.append_assoc];exact hr'.2 _)
theorem KZ {a:TA} (ha:RT a) (k:a.kind=6∨a.kind=7) (h:C0 a):C2 a:=fun b r r' hb e hr hr'=>by
 have ea:prT a 2=40::(prT a 0 ++[41]):=by
  cases beg ha with
  |word _ k'=>rcases k with k|k<;>rw[k]at k'<;>simp at k'
  |dyn=>rcases k with k|k<;>cases k
  |rcd=>rcases k with k|k<;>cases k
  |par _ _ h=>exact h
 rw[ea]at e
 have eb:prT b 2=40::(prT b 0 ++[41]):=by
  cases beg hb with
  |word _ k' hne hw=>exact absurd e.symm (jZ hne hw (by decide))
  |dyn=>rw[sO]at e;cases e
  |rcd _ _ z h'=>rw[h']at e;cases e
  |par _ _ h=>exact h
 rw[eb]at e;simp only[List.cons_append,List.append_assoc,List.cons.injEq,true_and]at e;obtain⟨e1,e2⟩:=h b _ _ hb e (KX (by decide) (by decide)) (KX (by decide) (by decide));exact⟨e1,by simpa using e2⟩
def pK :List Bytes→List TA→Bytes
 |n::ns,t::l=>[44,32] ++(n ++([58,32] ++(prT t 0 ++pK ns l)))
 |_,_=>[125]
theorem uV :∀(n:Bytes) (ns:List Bytes) (t:TA) (l:List TA),iQ [44,32] (nE (n::ns) (prL (t::l) 0)) ++[125]=n ++([58,32] ++(prT t 0 ++pK ns l))
 |n,[],t,l=>by rw[prL];simp[nE,iQ,pK]
 |n,m::ns,t,[]=>by rw[prL,prL];simp[nE,iQ,pK]
 |n,m::ns,t,u::l=>by
  have:=uV m ns u l;rw[prL,prL];rw[prL]at this;show(n ++[58,32] ++prT t 0) ++[44,32] ++iQ [44,32] (nE (m::ns) (prT u 0::prL l 0)) ++[125]=_;rw[List.append_assoc _ _ [125],this,pK];simp[List.append_assoc]
theorem Sq :∀{ns ns':List Bytes} {l l':List TA} {r r':Bytes},ns.length=l.length→ns'.length=l'.length→(∀n∈ns,jM n)→(∀n∈ns',jM n)→(∀t∈l,C0 t)→(∀t∈l',RT t)→pK ns l ++r=pK ns' l' ++r'→ns=ns'∧l=l'∧r=r'
 |[],[],[],[],r,r',_,_,_,_,_,_,e=>⟨rfl,rfl,by simpa[pK]using e⟩
 |[],n::ns,[],t::l,r,r',_,_,_,_,_,_,e=>by simp[pK]at e
 |n::ns,[],t::l,[],r,r',_,_,_,_,_,_,e=>by simp[pK]at e
 |n::ns,m::ns',t::l,u::l',r,r',h1,h2,hn,hn',hc,hr,e=>by
  rw[pK,pK]at e;simp only[List.append_assoc]at e;have e1:=List.append_cancel_left e;clear e;have hsp:∀z:Bytes,D2 ([58,32] ++z):=fun z=>F6 (by decide)
  obtain⟨rfl,e2⟩:=Ga (hn n (by simp)).2.1 (hn' m (by simp)).2.1 (hsp _) (hsp _) e1;clear e1;have e3:=List.append_cancel_left e2
  have hD:∀(ns:List Bytes) (l:List TA) (r:Bytes),D0 (pK ns l ++r):=fun ns l r=>by
   match ns,l with
   |[],_=>exact KX (by decide) (by decide)
   |_::_,[]=>exact KX (by decide) (by decide)
   |_::_,_::_=>exact KX (by decide) (by decide)
  obtain⟨rfl,e4⟩:=hc t (by simp) u _ _ (hr u (by simp)) e3 (hD _ _ _) (hD _ _ _);obtain⟨rfl,rfl,e5⟩:=Sq (by simpa using h1) (by simpa using h2) (fun x hx=>hn x (by simp[hx])) (fun x hx=>hn' x (by simp[hx])) (fun x hx=>hc x (by simp[hx])) (fun x hx=>hr x (by simp[hx])) e4;exact⟨rfl,rfl,e5⟩
theorem YW {ns:List Bytes} {l:List TA} (hl:ns.length=l.length) (hn:∀n∈ns,jM n) (h:∀t∈l,C0 t):C2 (.mk 5 [] ns l):=fun b r r' hb e hr hr'=>by
 rw[xB]at e
 cases hb with
 |rcd ns' l' hs' hl' hn' h'=>
  rw[xB]at e;simp only[List.append_assoc]at e;have e:=List.append_cancel_left e
  match ns,l,ns',l' with
  |[],[],[],[]=>exact⟨rfl,by simpa[nE,iQ]using e⟩
  |[],[],n::ns',t::l'=>
   rw[←List.append_assoc,←List.append_assoc,uV]at e;have:inA 125 bV=false:=by decide
   exact absurd e.symm (by
    simp only[nE,prL,List.zipWith_nil_left,iQ,List.nil_append,List.cons_append,List.append_assoc]
    exact jZ (hn' n (by simp)).1 (hn' n (by simp)).2.1 this)
  |n::ns,t::l,[],[]=>
   rw[←List.append_assoc,←List.append_assoc,uV]at e;have:inA 125 bV=false:=by decide
   exact absurd e (by
    simp only[nE,prL,List.zipWith_nil_left,iQ,List.nil_append,List.cons_append,List.append_assoc]
    exact jZ (hn n (by simp)).1 (hn n (by simp)).2.1 this)
  |n::ns,t::l,m::ns',u::l'=>
   rw[←List.append_assoc,←List.append_assoc,uV,uV]at e;obtain⟨e1,e2,e3⟩:=Sq (ns:=n::ns) (ns':=m::ns') (l:=t::l) (l':=u::l') (r:=r) (r':=r') hl hl' hn hn' h h' (by rw[pK,pK];simp only[List.append_assoc]at e⊢;rw[e]);exact⟨by rw[e1,e2],e3⟩
  |[],_::_,_,_=>cases hl
  |_::_,[],_,_=>cases hl
  |_,_,[],_::_=>cases hl'
  |_,_,_::_,[]=>cases hl'
 |int=>rw[sN]at e;cases e
 |bool=>rw[oP]at e;cases e
 |text=>rw[qG]at e;cases e
 |dyn=>rw[sO]at e;cases e
 |fn a b=>rw[EP]at e;cases e
 |uni l' h2=>
  have:l'≠[]:=by rintro rfl;simp at h2
  rw[zF _ this]at e;cases e
 |ref nm h=>rw[uJ]at e;exact absurd e.symm (jZ h.1 h.2.1 (by decide))
theorem BI {a:TA} (ha:RT a) (k:a.kind=1∨a.kind=2∨a.kind=3∨a.kind=8):C2 a:=fun b r r' hb e hr hr'=>by
 have hw:prT a 2≠[]∧∀c∈prT a 2,inA c bV=true:=by
  cases beg ha with
  |word _ _ hne h=>exact⟨hne,h⟩
  |dyn=>rcases k with k|k|k|k<;>cases k
  |rcd=>rcases k with k|k|k|k<;>cases k
  |par _ k'=>rcases k' with k'|k'<;>rw[k']at k<;>simp at k
 cases beg hb with
 |word _ k' hne hw'=>
  obtain⟨e1,e2⟩:=Ga hw.2 hw' hr hr' e;refine⟨?_,e2⟩
  cases ha<;>(try(rcases k with k|k|k|k<;>cases k;done))<;>cases hb<;>(try(rcases k' with k'|k'|k'|k'<;>cases k';done))<;>
   simp only[sN,oP,qG,uJ]at e1<;>(try(exact absurd e1 (by decide)))<;>(try rfl)
  ·rename_i nm h;exact absurd e1.symm h.2.2.1
  ·rename_i nm h;exact absurd e1.symm h.2.2.2.1
  ·rename_i nm h;exact absurd e1.symm h.2.2.2.2
  ·rename_i nm h;exact absurd e1 h.2.2.1
  ·rename_i nm h;exact absurd e1 h.2.2.2.1
  ·rename_i nm h;exact absurd e1 h.2.2.2.2
  ·rw[e1]
 |dyn=>rw[sO]at e;exact absurd e (jZ hw.1 hw.2 (by decide))
 |rcd _ _ z h=>rw[h]at e;exact absurd e (jZ hw.1 hw.2 (by decide))
 |par _ _ h=>rw[h]at e;exact absurd e (jZ hw.1 hw.2 (by decide))
theorem YX :C2 (.mk 4 [] [] []):=fun b r r' hb e hr hr'=>by
 rw[sO]at e
 cases beg hb with
 |word _ _ hne h=>exact absurd e.symm (jZ hne h (by decide))
 |dyn=>rw[sO]at e;exact⟨rfl,by simpa using e⟩
 |rcd _ _ z h=>rw[h]at e;cases e
 |par _ _ h=>rw[h]at e;cases e
theorem reads {a:TA} (h:RT a):C2 a∧C1 a∧C0 a:=by
 induction h with
 |int=>have h:=RT.int;have c2:=BI h (.inl rfl);have c1:=qp h (by decide) c2;exact⟨c2,c1,qw h (by decide) c1⟩
 |bool=>have h:=RT.bool;have c2:=BI h (.inr (.inl rfl));have c1:=qp h (by decide) c2;exact⟨c2,c1,qw h (by decide) c1⟩
 |text=>have h:=RT.text;have c2:=BI h (.inr (.inr (.inl rfl)));have c1:=qp h (by decide) c2;exact⟨c2,c1,qw h (by decide) c1⟩
 |dyn=>have h:=RT.dyn;have c2:=YX;have c1:=qp h (by decide) c2;exact⟨c2,c1,qw h (by decide) c1⟩
 |ref nm hn=>have h:=RT.ref nm hn;have c2:=BI h (.inr (.inr (.inr rfl)));have c1:=qp h (by simp[TA.kind]) c2;exact⟨c2,c1,qw h (by simp[TA.kind]) c1⟩
 |rcd ns l hs hl hn hr ih=>
  have h:=RT.rcd ns l hs hl hn hr;have c2:=YW hl hn fun t ht=>(ih t ht).2.2
  have c1:=qp h (by simp[TA.kind]) c2;exact⟨c2,c1,qw h (by simp[TA.kind]) c1⟩
 |fn a b ha hb iha ihb=>
  have h:=RT.fn a b ha hb;have c1:=C1_fn iha.1 ihb.2.1;have c0:=qw h (by simp[TA.kind]) c1;exact⟨KZ h (.inl rfl) c0,c1,c0⟩
 |uni l h2 hr h7 ih=>
  have h:=RT.uni l h2 hr h7
  match l,h2 with
  |q::p::qs,_=>
   have c0:=YZ (q:=q) (qs:=p::qs) (by simp) fun x hx=>(ih x hx).2.1
   have c2:=KZ h (.inr rfl) c0;exact⟨c2,qp h (by simp[TA.kind]) c2,c0⟩
theorem Vp {a b:TA} (ha:RT a) (hb:RT b) (e:prT a 0=prT b 0):a=b:=by
 have hD:D0 []:=⟨⟨fun c z e=>(by cases e),fun z e=>(by cases e)⟩,fun z e=>(by cases e)⟩;exact((reads ha).2.2 b [] [] hb (by rw[List.append_nil,List.append_nil];exact e) hD hD).1
end Go.Ag
/- Good types, and what is made normal of them. -/
namespace Go.Ag
open Go
inductive GT :TA→Prop where
 |int:GT (.mk 1 [] [] [])
 |bool:GT (.mk 2 [] [] [])
 |text:GT (.mk 3 [] [] [])
 |dyn:GT (.mk 4 [] [] [])
 |rcd (ns:List Bytes) (l:List TA) (hs:ns.Pairwise (· < ·)) (hl:ns.length=l.length) (hn:∀n∈ns,jM n) (h:∀t∈l,GT t):GT (.mk 5 [] ns l)
 |fn (a b:TA) (ha:GT a) (hb:GT b):GT (.mk 6 [] [] [a,b])
 |uni (l:List TA) (h0:l≠[]) (h:∀t∈l,GT t):GT (.mk 7 [] [] l)
 |ref (nm:Bytes) (h:jM nm):GT (.mk 8 nm [] [])
inductive NT :TA→Prop where
 |int:NT (.mk 1 [] [] [])
 |bool:NT (.mk 2 [] [] [])
 |text:NT (.mk 3 [] [] [])
 |dyn:NT (.mk 4 [] [] [])
 |rcd (ns:List Bytes) (l:List TA) (hs:ns.Pairwise (· < ·)) (hl:ns.length=l.length) (hn:∀n∈ns,jM n) (h:∀t∈l,NT t):NT (.mk 5 [] ns l)
 |fn (a b:TA) (ha:NT a) (hb:NT b):NT (.mk 6 [] [] [a,b])
 |uni (l:List TA) (h2:2≤l.length) (h:∀t∈l,NT t) (h7:∀t∈l,t.kind≠7∧t.kind≠4) (hs:l.Pairwise fun a b=>prT a 0<prT b 0):NT (.mk 7 [] [] l)
 |ref (nm:Bytes) (h:jM nm):NT (.mk 8 nm [] [])
theorem NT.rt {t:TA} (h:NT t):RT t:=by
 induction h with
 |int=>exact .int
 |bool=>exact .bool
 |text=>exact .text
 |dyn=>exact .dyn
 |rcd ns l hs hl hn h ih=>exact .rcd ns l hs hl hn ih
 |fn a b ha hb iha ihb=>exact .fn a b iha ihb
 |uni l h2 h h7 hs ih=>exact .uni l h2 ih fun t ht=>(h7 t ht).1
 |ref nm h=>exact .ref nm h
theorem NT.gt {t:TA} (h:NT t):GT t:=by
 induction h with
 |int=>exact .int
 |bool=>exact .bool
 |text=>exact .text
 |dyn=>exact .dyn
 |rcd ns l hs hl hn h ih=>exact .rcd ns l hs hl hn ih
 |fn a b ha hb iha ihb=>exact .fn a b iha ihb
 |uni l h2 h h7 hs ih=>exact .uni l (by rintro rfl;simp at h2) ih
 |ref nm h=>exact .ref nm h
theorem NT.inj {a b:TA} (ha:NT a) (hb:NT b) (e:prT a 0=prT b 0):a=b:=Vp ha.rt hb.rt e
theorem NT.parts {t:TA} (h:NT t):∀x∈t.l,NT x:=by
 cases h with
 |rcd ns l hs hl hn h=>exact h
 |fn a b ha hb=>
  intro x hx;simp only[TA.l,List.mem_cons,List.not_mem_nil,or_false]at hx;rcases hx with rfl|rfl
  ·exact ha
  ·exact hb
 |uni l h2 h h7 hs=>exact h
 |_=>intro x hx;cases hx
theorem NT.wf {t:TA} (h:NT t):wfT t:=by
 have hL:∀{l:List TA},(∀t∈l,wfT t)→wfL l:=fun{l} hl=>by
  induction l with
  |nil=>trivial
  |cons x l ih=>exact⟨hl x (by simp),ih fun t ht=>hl t (by simp[ht])⟩
 induction h with
 |rcd ns l hs hl hn h ih=>exact⟨fun _=>by omega,fun h=>(by cases h),hL ih⟩
 |fn a b ha hb iha ihb=>exact⟨fun h=>(by cases h),fun _=>Nat.le_refl 2,iha,ihb,trivial⟩
 |uni l h2 h h7 hs ih=>exact⟨fun h=>(by cases h),fun h=>(by cases h),hL ih⟩
 |_=>exact⟨fun h=>(by cases h),fun h=>(by cases h),trivial⟩
theorem NT.Dz {t:TA} (h:NT t) (h4:t.kind=4):t=dH:=by cases h<;>first|(cases h4;done)|rfl
theorem yY {α:Type}:∀(l:List (α×Bytes)) (p:Bytes),l.Pairwise (fun a b=>a.2≤b.2)→(∀y∈l,p≤y.2)→(kJ p l).Pairwise (fun a b=>a.2<b.2)∧∀y∈kJ p l,p<y.2∧y∈l
 |[],p,_,_=>⟨by simp[kJ],fun y hy=>by simp[kJ]at hy⟩
 |x::l,p,hs,hp=>by
  obtain⟨h1,h2⟩:=List.pairwise_cons.1 hs;obtain⟨k1,k2⟩:=yY l x.2 h2 h1;rw[kJ];split
  ·rename_i he
   have he:x.2=p:=by simpa using he
   exact⟨k1,fun y hy=>⟨by rw[←he];exact(k2 y hy).1,by simp[(k2 y hy).2]⟩⟩
  ·rename_i he
   have he:x.2≠p:=by simpa using he
   have hlt:p<x.2:=by
    have:=hp x (by simp)
    by_cases h:p<x.2
    ·exact h
    ·exact absurd (List.le_antisymm (List.not_lt.1 h) this) he
   refine⟨List.pairwise_cons.2 ⟨fun y hy=>(k2 y hy).1,k1⟩,fun y hy=>?_⟩;rcases List.mem_cons.1 hy with rfl|hy
   ·exact⟨hlt,by simp⟩
   ·exact⟨List.lt_trans hlt (k2 y hy).1,by simp[(k2 y hy).2]⟩
theorem AV {α:Type} {l:List (α×Bytes)} (hs:l.Pairwise fun a b=>a.2≤b.2):(gB l).Pairwise (fun a b=>a.2<b.2)∧∀y∈gB l,y∈l:=by
 cases l with
 |nil=>exact⟨by simp[gB],fun y hy=>by simp[gB]at hy⟩
 |cons x l=>
  obtain⟨h1,h2⟩:=List.pairwise_cons.1 hs;obtain⟨k1,k2⟩:=yY l x.2 h2 h1
  exact⟨List.pairwise_cons.2 ⟨fun y hy=>(k2 y hy).1,k1⟩,fun y hy=>by
   rcases List.mem_cons.1 hy with rfl|hy
   ·simp
   ·simp[(k2 y hy).2]⟩
theorem FL {α:Type}:∀(l:List (α×Bytes)) (p:Bytes),∀y∈l,y.2=p∨∃z∈kJ p l,z.2=y.2
 |x::l,p,y,hy=>by
  rw[kJ];have ih:=FL l x.2;split
  ·rename_i he
   have he:x.2=p:=by simpa using he
   rcases List.mem_cons.1 hy with rfl|hy
   ·exact .inl he
   ·rcases ih y hy with h|h
    ·exact .inl (h.trans he)
    ·exact .inr h
  ·rcases List.mem_cons.1 hy with rfl|hy
   ·exact .inr ⟨y,by simp,rfl⟩
   ·rcases ih y hy with h|⟨z,hz,h⟩
    ·exact .inr ⟨x,by simp,h.symm⟩
    ·exact .inr ⟨z,by simp[hz],h⟩
theorem Tc {α:Type} {l:List (α×Bytes)}:∀y∈l,∃z∈gB l,z.2=y.2:=fun y hy=>by
 cases l with
 |nil=>cases hy
 |cons x l=>
  rcases List.mem_cons.1 hy with rfl|hy
  ·exact⟨y,by simp[gB],rfl⟩
  ·rcases FL l x.2 y hy with h|⟨z,hz,h⟩
   ·exact⟨x,by simp[gB],h.symm⟩
   ·exact⟨z,by simp[gB,hz],h⟩
def gZ (l:List TA):List TA:=(gB (mF (eY l))).map (·.1)
theorem Bv {l:List TA}:∀p∈gB (mF (eY l)),p.2=prT p.1 0∧p.1∈l:=fun p hp=>by
 have h1:=(AV (sF (eY l))).2 p hp;have h2:=(ni (eY l)).mem_iff.1 h1;obtain⟨t,ht,rfl⟩:=List.mem_map.1 h2;exact⟨rfl,ht⟩
theorem lC (l:List TA):(gZ l).Pairwise fun a b=>prT a 0<prT b 0:=by
 unfold gZ;rw[List.pairwise_map];refine(AV (sF (eY l))).1.imp_of_mem fun{a b} ha hb h=>?_
 rw[←(Bv a ha).1,←(Bv b hb).1];exact h
theorem nu {l:List TA} {t:TA} (h:t∈gZ l):t∈l:=by
 obtain⟨p,hp,rfl⟩:=List.mem_map.1 h;exact(Bv p hp).2
theorem Cz {l:List TA} {t:TA} (h:t∈l):∃u∈gZ l,prT u 0=prT t 0:=by
 obtain⟨z,hz,e⟩:=Tc (l:=mF (eY l)) (t,prT t 0) ((ni (eY l)).mem_iff.2 (List.mem_map.2 ⟨t,h,rfl⟩));exact⟨z.1,List.mem_map.2 ⟨z,hz,rfl⟩,by rw[←(Bv z hz).1];exact e⟩
theorem vM {l:List TA} (h:l≠[]):gZ l≠[]:=by
 cases l with
 |nil=>exact absurd rfl h
 |cons t l=>
  obtain⟨u,hu,_⟩:=Cz (l:=t::l) (t:=t) (by simp);intro e;rw[e]at hu;cases hu
theorem sQ {l:List TA} (hl:∀t∈l,NT t) {t:TA}:t∈gZ l↔t∈l:=by
 refine⟨nu,fun h=>?_⟩;obtain⟨u,hu,e⟩:=Cz h;have:=(hl u (nu hu)).inj (hl t h) e;rw[←this];exact hu
def ow :List TA→TA
 |[t]=>t
 |l=>.mk 7 [] [] l
theorem o7 (l:List TA):mD l=match(aP l).find? (fun t=>t.kind==4)with
  |some t=>t
  |none=>ow (gZ (aP l)):=by
 unfold mD;split
 ·rename_i t h;rw[h]
 ·rename_i h
  rw[h];unfold gZ
  match gB (mF (eY (aP l)))with
  |[]=>rfl
  |[p]=>rfl
  |p::q::r=>rfl
theorem rW {l:List TA} {x:TA}:x∈aP l↔∃t∈l,x∈fu t:=by unfold aP;rw[List.mem_flatMap]
theorem ES {t:TA} (h:NT t):(∀x∈fu t,NT x∧x.kind≠7)∧fu t≠[]:=by
 unfold fu;split
 ·rename_i h7
  cases h with
  |uni l h2 h h7' hs=>exact⟨fun x hx=>⟨h x hx,(h7' x hx).1⟩,by rintro e;simp only[TA.l]at e;subst e;simp at h2⟩
  |_=>cases h7
 ·rename_i h7
  exact⟨fun x hx=>by rw[List.mem_singleton]at hx;subst hx;exact⟨h,h7⟩,by simp⟩
theorem uX {l:List TA} (h:∀t∈l,NT t):∀x∈aP l,NT x∧x.kind≠7:=fun x hx=>by
 obtain⟨t,ht,hx⟩:=rW.1 hx;exact(ES (h t ht)).1 x hx
theorem J7 {l:List TA} (h:∀t∈l,NT t) (h0:l≠[]):aP l≠[]:=by
 cases l with
 |nil=>exact absurd rfl h0
 |cons t l=>
  have:=(ES (h t (by simp))).2
  cases hp:fu t with
  |nil=>exact absurd hp this
  |cons x xs=>
   intro e;have:x∈aP (t::l):=rW.2 ⟨t,by simp,by rw[hp];simp⟩;rw[e]at this;cases this
theorem OP {l:List TA} (h0:l≠[]) (h:∀t∈l,NT t∧t.kind≠7∧t.kind≠4) (hs:l.Pairwise fun a b=>prT a 0<prT b 0):NT (ow l):=by
 match l,h0 with
 |[t],_=>exact(h t (by simp)).1
 |t::u::l,_=>exact .uni _ (by simp) (fun x hx=>(h x hx).1) (fun x hx=>(h x hx).2) hs
theorem OO {l:List TA} (h:∀t∈l,NT t) (h0:l≠[]):NT (mD l):=by
 rw[o7];have hf:=uX h
 cases hd:(aP l).find? (fun t=>t.kind==4)with
 |some t=>exact(hf t (List.mem_of_find?_eq_some hd)).1
 |none=>
  refine OP (vM (J7 h h0)) (fun t ht=>?_) (lC _);have hm:=nu ht;exact⟨(hf t hm).1,(hf t hm).2,by have:=List.find?_eq_none.1 hd t hm;simpa using this⟩
theorem uL {t:TA} (h:GT t):NT (aU t):=by
 induction h with
 |int=>rw[aU,if_neg (by decide),bX];exact .int
 |bool=>rw[aU,if_neg (by decide),bX];exact .bool
 |text=>rw[aU,if_neg (by decide),bX];exact .text
 |dyn=>rw[aU,if_neg (by decide),bX];exact .dyn
 |ref nm hn=>rw[aU,if_neg (by decide),bX];exact .ref nm hn
 |rcd ns l hs hl hn h ih=>
  rw[aU,if_neg (by decide),dX];refine .rcd ns _ hs (by rw[List.length_map];exact hl) hn fun x hx=>?_
  obtain⟨t,ht,rfl⟩:=List.mem_map.1 hx;exact ih t ht
 |fn a b ha hb iha ihb=>rw[aU,if_neg (by decide),dX];exact .fn _ _ iha ihb
 |uni l h0 h ih=>
  rw[aU,if_pos rfl,dX];refine OO (fun x hx=>?_) (by simpa using h0);obtain⟨t,ht,rfl⟩:=List.mem_map.1 hx;exact ih t ht
theorem Bj {l:List TA} (hs:l.Pairwise fun a b=>prT a 0<prT b 0):gB (mF (eY l))=eY l:=by
 have h1:mF (eY l)=eY l:=by
  have hsl:(eY l).Pairwise fun a b=>a.2≤b.2:=by
   unfold eY;rw[List.pairwise_map];exact hs.imp fun h=>List.le_of_lt h
  exact(yt (List.Perm.refl _) hsl fun a ha b hb e=>by
   obtain⟨t,ht,rfl⟩:=List.mem_map.1 ha;obtain⟨u,hu,rfl⟩:=List.mem_map.1 hb;obtain⟨i,hi,rfl⟩:=List.getElem_of_mem ht;obtain⟨j,hj,rfl⟩:=List.getElem_of_mem hu;have hp:=List.pairwise_iff_getElem.1 hs;rcases Nat.lt_trichotomy i j with h|h|h
   ·have:=hp i j hi hj h
    dsimp only at e;rw[e]at this;exact absurd this (List.lt_irrefl _)
   ·subst h;rfl
   ·have:=hp j i hj hi h
    dsimp only at e
    rw[e]at this;exact absurd this (List.lt_irrefl _)).symm
 rw[h1]
 have key:∀(l:List TA) (p:Bytes),(∀t∈l,p<prT t 0)→l.Pairwise (fun a b=>prT a 0<prT b 0)→kJ p (eY l)=eY l:=by
  intro l
  induction l with
  |nil=>intro p _ _;simp[eY,kJ]
  |cons t l ih=>
   intro p hp hs;obtain⟨k1,k2⟩:=List.pairwise_cons.1 hs;have h2:=ih (prT t 0) k1 k2;unfold eY at h2⊢;rw[List.map_cons,kJ,if_neg,h2];have:=hp t (by simp);simp only[beq_iff_eq]
   rintro e
   rw[e]at this;exact List.lt_irrefl _ this
 cases l with
 |nil=>simp[eY,gB]
 |cons t l=>
  obtain⟨k1,k2⟩:=List.pairwise_cons.1 hs;have:=key l (prT t 0) k1 k2;unfold eY at this⊢;rw[List.map_cons,gB,this]
theorem Dp {l:List TA} (h:∀t∈l,t.kind≠7):aP l=l:=by
 induction l with
 |nil=>rfl
 |cons t l ih=>
  have:=ih fun x hx=>h x (by simp[hx])
  unfold aP at this⊢;rw[List.flatMap_cons,this];unfold fu;rw[if_neg (h t (by simp))];rfl
theorem jK {t:TA} (h:NT t):aU t=t:=by
 induction h with
 |int=>rw[aU,if_neg (by decide),bX]
 |bool=>rw[aU,if_neg (by decide),bX]
 |text=>rw[aU,if_neg (by decide),bX]
 |dyn=>rw[aU,if_neg (by decide),bX]
 |ref nm hn=>rw[aU,if_neg (by decide),bX]
 |rcd ns l hs hl hn h ih=>
  rw[aU,if_neg (by decide),dX]
  congr 1
  exact(List.map_congr_left (g:=id) ih).trans (List.map_id l)
 |fn a b ha hb iha ihb=>rw[aU,if_neg (by decide),dX];simp[iha,ihb]
 |uni l h2 h h7 hs ih=>
  have e1:l.map aU=l:=(List.map_congr_left (g:=id) ih).trans (List.map_id l);rw[aU,if_pos rfl,dX,e1,o7,Dp fun t ht=>(h7 t ht).1];have e2:l.find? (fun t=>t.kind==4)=none:=List.find?_eq_none.2 fun t ht=>by have:=(h7 t ht).2;simpa using this
  rw[e2]
  have e3:gZ l=l:=by
   unfold gZ;rw[Bj hs];unfold eY;rw[List.map_map];exact(List.map_congr_left (g:=id) fun x _=>rfl).trans (List.map_id l)
  dsimp only;rw[e3]
  match l,h2 with
  |t::u::l,_=>rfl
end Go.Ag
/- How much good types are; that they can be made normal. -/
namespace Go.Ag
open Go
theorem sj (l:List TA):wtL l=(l.map fun t=>wtT t+8).sum:=by
 induction l with
 |nil=>rfl
 |cons t l ih=>rw[wtL,List.map_cons,List.sum_cons,ih]
theorem xg (l m:List TA):wtL (l ++m)=wtL l+wtL m:=by simp[sj]
theorem BP (t:TA):wtL t.l+16≤wtT t:=by obtain⟨k,nm,ns,l⟩:=t;rw[wtT];simp only[TA.l];omega
theorem BO (t:TA):wtL (fu t)≤wtT t+8:=by
 unfold fu;have:=BP t;split
 ·omega
 ·rw[wtL,wtL];omega
theorem F9 (l:List TA):wtL (aP l)≤wtL l:=by
 induction l with
 |nil=>exact Nat.le_refl _
 |cons t l ih=>
  have h1:aP (t::l)=fu t ++aP l:=by unfold aP;rw[List.flatMap_cons]
  rw[h1,xg,wtL];have:=BO t;omega
theorem FK {α:Type}:∀(l:List (α×Bytes)) (p:Bytes),(kJ p l).Sublist l
 |[],p=>by simp[kJ]
 |x::l,p=>by
  rw[kJ];have:=FK l x.2;split
  ·exact this.cons _
  ·exact this.cons_cons _
theorem Kr {α:Type} (l:List (α×Bytes)):(gB l).Sublist l:=by
 cases l with
 |nil=>simp[gB]
 |cons x l=>exact(FK l x.2).cons_cons _
theorem Af {α:Type} (f:α→Nat) {l m:List α} (h:l.Sublist m):(l.map f).sum≤(m.map f).sum:=by
 induction h with
 |slnil=>exact Nat.le_refl _
 |cons x h ih=>rw[List.map_cons,List.sum_cons];omega
 |cons_cons x h ih=>rw[List.map_cons,List.map_cons,List.sum_cons,List.sum_cons];omega
theorem OI (l:List TA):wtL (gZ l)≤wtL l:=by
 unfold gZ;rw[sj,List.map_map];have h1:=Af (fun p:TA×Bytes=>wtT p.1+8) (Kr (mF (eY l)));have h2:=((ni (eY l)).map fun p:TA×Bytes=>wtT p.1+8).sum_nat
 have h3:((eY l).map fun p:TA×Bytes=>wtT p.1+8).sum=wtL l:=by
  unfold eY;rw[List.map_map,sj];rfl
 have h4:((gB (mF (eY l))).map ((fun t=>wtT t+8)∘fun x=>x.1)).sum=((gB (mF (eY l))).map fun p:TA×Bytes=>wtT p.1+8).sum:=rfl;omega
theorem OH (l:List TA):wtT (mD l)≤16+wtL l:=by
 rw[o7];have hf:=F9 l;split
 ·rename_i t h
  have:=gY (List.mem_of_find?_eq_some h);omega
 ·have hp:=OI (aP l)
  generalize gZ (aP l)=m at hp
  match m with
  |[]=>simp only[ow];rw[wtT];simp[wtL]
  |[t]=>simp only[ow];rw[wtL,wtL]at hp;omega
  |t::u::m=>simp only[ow];rw[wtT];simp only[List.length_nil,List.map_nil,List.sum_nil];omega
theorem M6 :∀(n:Nat) (t:TA),wtT t≤n→wtT (aU t)≤wtT t
 |0,t,h=>by have:=BP t;omega
 |n+1,t,h=>by
  have ih:=M6 n;obtain⟨k,nm,ns,l⟩:=t;rw[wtT]at h
  have hl:wtL (bX l)≤wtL l:=by
   have hm:∀t∈l,wtT t≤n:=fun t ht=>by have:=gY ht;omega
   clear h
   induction l with
   |nil=>rw[bX];exact Nat.le_refl _
   |cons t l ihl=>
    rw[bX,wtL,wtL];have h1:=ih t (hm t (by simp));have h2:=ihl fun x hx=>hm x (by simp[hx])
    omega
  rw[aU];split
  ·have:=OH (bX l)
   rw[wtT];omega
  ·rw[wtT,wtT];omega
theorem qZ (t:TA):wtT (aU t)≤wtT t:=M6 _ t (Nat.le_refl _)
theorem QG (l:List TA):wtL (bX l)≤wtL l:=by
 induction l with
 |nil=>rw[bX];exact Nat.le_refl _
 |cons t l ih=>rw[bX,wtL,wtL];have:=qZ t;omega
theorem Rs (ns:List Bytes):ns.length≤(ns.map fun n=>n.length+4).sum:=by
 induction ns with
 |nil=>exact Nat.le_refl _
 |cons n ns ih=>rw[List.map_cons,List.sum_cons,List.length_cons];omega
theorem Jg {l:List TA} (h:∀t∈l,NT t) (hl:l.length≤2^30) (hp:∀t∈l,wtT t≤2^30) (ha:(aP l).length≤2^30):Ic l:=by
 have hm:∀t∈aP l,∃u∈l,wtT t≤wtT u+8:=fun t ht=>by
  obtain⟨u,hu,hx⟩:=rW.1 ht;have h1:=gY hx;have h2:=BO u;exact⟨u,hu,by omega⟩
 refine⟨hl,fun t ht=>?_,ha,fun t ht=>?_,fun t ht=>(uX h t ht).1.wf,fun a ha b hb e=>(uX h a ha).1.inj (uX h b hb).1 e⟩
 ·have h1:=hp t ht
  have h2:=BP t;have h3:=qJ t.l;omega
 ·obtain⟨u,hu,h1⟩:=hm t ht
  have:=hp u hu;omega
theorem GI {t:TA} (h:GT t):wtT t≤2^30→okN t:=by
 have hL:∀{l:List TA},(∀t∈l,okN t)→Ph l:=fun{l} hl=>by
  induction l with
  |nil=>trivial
  |cons x l ih=>exact⟨hl x (by simp),ih fun t ht=>hl t (by simp[ht])⟩
 have hlt:∀{l:List TA} {t:TA} {n:Nat},t∈l→wtL l≤n→wtT t≤n:=fun ht hn=>by have:=gY ht;omega
 induction h with
 |int=>intro _;exact⟨by simp,by simp,trivial,fun h=>by cases h⟩
 |bool=>intro _;exact⟨by simp,by simp,trivial,fun h=>by cases h⟩
 |text=>intro _;exact⟨by simp,by simp,trivial,fun h=>by cases h⟩
 |dyn=>intro _;exact⟨by simp,by simp,trivial,fun h=>by cases h⟩
 |ref nm hn=>intro _;exact⟨by simp,by simp,trivial,fun h=>by cases h⟩
 |rcd ns l hs hl hn h ih=>
  intro hw;rw[wtT]at hw;have h1:=qJ l;have h2:=Rs ns;exact⟨by omega,by omega,hL fun t ht=>ih t ht (hlt ht (by omega)),fun h=>by cases h⟩
 |fn a b ha hb iha ihb=>
  intro hw;rw[wtT,wtL,wtL,wtL]at hw;exact⟨by simp,by simp,⟨iha (by omega),ihb (by omega),trivial⟩,fun h=>by cases h⟩
 |uni l h0 h ih=>
  intro hw;rw[wtT]at hw;have h1:=qJ l;have h3:=QG l;have h4:=F9 (bX l);have h5:=qJ (aP (bX l));refine⟨by omega,by simp,hL fun t ht=>ih t ht (hlt ht (by omega)),fun _=>Jg (fun t ht=>?_) (by rw[dX,List.length_map];omega) (fun t ht=>hlt ht (by omega)) (by omega)⟩;rw[dX]at ht;obtain⟨u,hu,rfl⟩:=List.mem_map.1 ht;exact uL (h u hu)
theorem Jp {l:List TA} (h:∀t∈l,NT t) (hl:l.length≤2^30) (hw:∀t∈l,wtT t≤2^30) (ha:(aP l).length≤2^30):okN (.mk 7 [] [] l):=by
 have hL:∀{l:List TA},(∀t∈l,okN t)→Ph l:=fun{l} hl=>by
  induction l with
  |nil=>trivial
  |cons x l ih=>exact⟨hl x (by simp),ih fun t ht=>hl t (by simp[ht])⟩
 have e1:bX l=l:=by rw[dX];exact(List.map_congr_left (g:=id) fun t ht=>jK (h t ht)).trans (List.map_id l)
 exact⟨hl,by simp,hL fun t ht=>GI (h t ht).gt (hw t ht),fun _=>by rw[e1];exact Jg h hl hw ha⟩
theorem Da {l:List TA} (h:∀t∈l,NT t∧t.kind≠7) (h0:l≠[]):
  lF l=(match l.find? (fun t=>t.kind==4)with
   |some t=>t
   |none=>ow (gZ l)):=by
 unfold lF;have e1:bX l=l:=by rw[dX];exact(List.map_congr_left (g:=id) fun t ht=>jK (h t ht).1).trans (List.map_id l)
 rw[aU,if_pos rfl,e1,o7,Dp fun t ht=>(h t ht).2]
 try rfl
def mM (l:List TA):List TA:=if l.any (fun t=>t.kind==4)then[dH]else gZ l
theorem Mr {l:List TA} (h:∀t∈l,NT t∧t.kind≠7) (h0:l≠[]):Hf (lF l)=mM l:=by
 have hj:=Da h h0;unfold mM
 cases hd:l.find? (fun t=>t.kind==4)with
 |some t=>
  rw[hd]at hj;have h4:t.kind=4:=by simpa using List.find?_some (p:=fun t:TA=>t.kind==4) hd
  have hm:=List.mem_of_find?_eq_some hd;have:=(h t hm).1.Dz h4;subst this;rw[if_pos (List.any_eq_true.2 ⟨dH,hm,rfl⟩),hj];rfl
 |none=>
  rw[hd]at hj;have hj:lF l=ow (gZ l):=hj
  have hn:l.any (fun t=>t.kind==4)=false:=by
   rw[List.any_eq_false];exact List.find?_eq_none.1 hd
  rw[hn,if_neg (by simp),hj];have hmem:∀t∈gZ l,t.kind≠7:=fun t ht=>(h t (nu ht)).2
  have hne:=vM h0;generalize gZ l=m at hmem hne;unfold Hf
  match m,hne with
  |[t],_=>exact if_neg (hmem t (by simp))
  |t::u::m,_=>rfl
theorem JO {l:List TA} {t:TA} (h:t∈mM l):t=dH∨t∈l:=by
 unfold mM at h;split at h
 ·rw[List.mem_singleton]at h;exact .inl h
 ·exact .inr (nu h)
end Go.Ag
/- The judge's answer, in plain Lean: it holds just if some sound relation holds. -/
namespace Go.Ag
open Go
section
variable (G : TA → Prop) (hd : TA → List TA) (tx : TA → Bytes) (loose : Bool)
end
variable {G : TA → Prop} {hd : TA → List TA} {tx : TA → Bytes} {loose : Bool}
theorem FC {σ α:Type} {st:σ→α→Option (Bool×σ)} {I:σ→Prop} {Gr:σ→σ→Prop} (hr:∀s,I s→Gr s s) (ht:∀a b c,Gr a b→Gr b c→Gr a c):∀(l:List α),(∀s x b s',x∈l→I s→st s x=some (b,s')→I s'∧Gr s s')→∀s b s',I s→mU st s l=some (b,s')→
  I s'∧Gr s s'∧(b=true→∀x∈l,∃s1 s2,I s1∧st s1 x=some (true,s2)∧Gr s2 s')∧(b=false→∃x∈l,∃s1,I s1∧st s1 x=some (false,s'))
 |[],_,s,b,s',h,e=>by cases e;exact⟨h,hr _ h,fun _ x hx=>(by cases hx),fun h=>(by cases h)⟩
 |x::l,hs,s,b,s',h,e=>by
  rw[mU]at e
  cases hq:st s x with
  |none=>rw[hq]at e;cases e
  |some q=>
   obtain⟨c,s2⟩:=q;rw[hq]at e;obtain⟨i2,g2⟩:=hs s x c s2 (by simp) h hq;cases c
   ·cases e
    exact⟨i2,g2,fun h=>(by cases h),fun _=>⟨x,by simp,s,h,hq⟩⟩
   ·obtain⟨i3,g3,y3,n3⟩:=FC hr ht l (fun s x b s' hx=>hs s x b s' (by simp[hx])) s2 b s' i2 e
    refine⟨i3,ht _ _ _ g2 g3,fun hb z hz=>?_,fun hb=>?_⟩
    ·rcases List.mem_cons.1 hz with rfl|hz
     ·exact⟨s,s2,h,hq,g3⟩
     ·exact y3 hb z hz
    ·obtain⟨z,hz,rest⟩:=n3 hb
     exact⟨z,by simp[hz],rest⟩
end Go.Ag
/- The judge comes to an end: each step of its recursion puts another pair on the trail. -/
namespace Go.Ag
open Go
variable {G : TA → Prop} {hd : TA → List TA} {tx : TA → Bytes} {loose : Bool}
theorem AP {σ α:Type} {st:σ→α→Option (Bool×σ)} {I:σ→Prop}:∀(l:List α),(∀s x,x∈l→I s→∃b s',st s x=some (b,s')∧I s')→∀s,I s→∃b s',mU st s l=some (b,s')∧I s'
 |[],_,s,h=>⟨true,s,rfl,h⟩
 |x::l,hs,s,h=>by
  obtain⟨b,s2,e,h2⟩:=hs s x (by simp) h;rw[mU,e];cases b
  ·exact⟨false,s2,rfl,h2⟩
  ·exact AP l (fun s x hx=>hs s x (by simp[hx])) s2 h2
end Go.Ag
/- Which names lead to themselves; where spreading ends. -/
namespace Go.Ag
open Go
inductive qQ (by_:List (Bytes×TA)):TA→Bytes→Prop where
 |here (t:TA) (nm:Bytes) (h:nm∈jr t):qQ by_ t nm
 |step (t:TA) (r nm:Bytes) (h:r∈jr t) (h':qQ by_ (dO by_ r) nm):qQ by_ t nm
theorem qQ.trans {by_:List (Bytes×TA)} {t:TA} {r nm:Bytes} (h:qQ by_ t r) (h':qQ by_ (dO by_ r) nm):qQ by_ t nm:=by
 induction h with
 |here t r h=>exact .step t r nm h h'
 |step t q r h _ ih=>exact .step t q nm h (ih h')
variable {by_ : List (Bytes × TA)} {nm : Bytes}
theorem FP :∀(n:Nat) (t:TA) (seen s:List Bytes),iA by_ nm n t seen=some (true,s)→qQ by_ t nm
 |0,t,seen,s,h=>by rw[iA]at h;cases h
 |n+1,t,seen,s,h=>by
  rw[iA,Option.map_eq_some_iff]at h;obtain⟨⟨c,s1⟩,hf,e⟩:=h;have hc:c=false:=by have:=congrArg Prod.fst e;simpa using this
  subst hc;obtain⟨_,_,_,hno⟩:=FC (st:=jP (iA by_ nm n) by_ nm) (I:=fun _=>True) (Gr:=fun _ _=>True) (fun _ _=>trivial) (fun _ _ _ _ _=>trivial) (jr t) (fun _ _ _ _ _ _ _=>⟨trivial,trivial⟩) seen false s1 trivial hf;obtain⟨r,hr,s2,_,e2⟩:=hno rfl;unfold jP at e2;split at e2
  ·rename_i hq
   have:r=nm:=by simpa using hq
   subst this;exact .here t r hr
  ·split at e2
   ·cases e2
   ·split at e2
    ·cases e2
    ·rename_i b s3 hq
     have hb:b=true:=by have:=congrArg (fun o=>o.map Prod.fst) e2;simpa using this
     subst hb;exact .step t r nm hr (FP n _ _ _ hq)
def wY (by_:List (Bytes×TA)) (nm:Bytes) (seen s:List Bytes):Prop:=
 (∀r∈seen,r∈s)∧∀r∈s,r∈seen∨∀q∈jr (dO by_ r),q≠nm∧q∈s
theorem wY.refl (s:List Bytes):wY by_ nm s s:=⟨fun _ h=>h,fun _ h=>.inl h⟩
theorem wY.trans {a b c:List Bytes} (h:wY by_ nm a b) (h':wY by_ nm b c):wY by_ nm a c:=
 ⟨fun r hr=>h'.1 r (h.1 r hr),fun r hr=>by
  rcases h'.2 r hr with k|k
  ·rcases h.2 r k with k|k
   ·exact .inl k
   ·exact .inr fun q hq=>⟨(k q hq).1,h'.1 q (k q hq).2⟩
  ·exact .inr k⟩
theorem Kw :∀(n:Nat) (t:TA) (seen s:List Bytes),iA by_ nm n t seen=some (false,s)→wY by_ nm seen s∧∀r∈jr t,r≠nm∧r∈s
 |0,t,seen,s,h=>by rw[iA]at h;cases h
 |n+1,t,seen,s,h=>by
  rw[iA,Option.map_eq_some_iff]at h;obtain⟨⟨c,s1⟩,hf,e⟩:=h;have hc:c=true:=by have:=congrArg Prod.fst e;simpa using this
  have hs:s1=s:=congrArg Prod.snd e;subst hc hs;clear e
  have key:∀(rs:List Bytes) (seen:List Bytes),mU (jP (iA by_ nm n) by_ nm) seen rs=some (true,s1)→wY by_ nm seen s1∧∀r∈rs,r≠nm∧r∈s1:=by
   intro rs
   induction rs with
   |nil=>intro seen h;cases h;exact⟨wY.refl _,fun r hr=>by cases hr⟩
   |cons r rs ih=>
    intro seen h;rw[mU]at h
    cases hq:jP (iA by_ nm n) by_ nm seen r with
    |none=>rw[hq]at h;cases h
    |some q=>
     obtain⟨c,s2⟩:=q;rw[hq]at h;cases c
     ·cases h
     ·obtain⟨k1,k2⟩:=ih s2 h
      unfold jP at hq;split at hq
      ·cases hq
      ·rename_i hne
       have hne:r≠nm:=by simpa using hne
       split at hq
       ·rename_i hc
        cases hq;have hc:r∈seen:=by simpa using hc
        exact⟨k1,fun x hx=>by
         rcases List.mem_cons.1 hx with rfl|hx
         ·exact⟨hne,k1.1 _ hc⟩
         ·exact k2 x hx⟩
       ·split at hq
        ·cases hq
        ·rename_i b s3 hcf
         have hb:b=false:=by have:=congrArg (fun o=>o.map Prod.fst) hq;simpa using this
         have hs3:s3=s2:=by have:=congrArg (fun o=>o.map Prod.snd) hq;simpa using this
         subst hb hs3;obtain⟨j1,j2⟩:=Kw n _ _ _ hcf
         have j:wY by_ nm seen s3:=by
          refine⟨fun x hx=>j1.1 x (by simp[hx]),fun x hx=>?_⟩;rcases j1.2 x hx with h'|h'
          ·rcases List.mem_append.1 h' with h'|h'
           ·exact .inl h'
           ·rw[List.mem_singleton]at h'
            subst h';exact .inr j2
          ·exact .inr h'
         exact⟨j.trans k1,fun x hx=>by
          rcases List.mem_cons.1 hx with rfl|hx
          ·exact⟨hne,k1.1 _ (j1.1 _ (by simp))⟩
          ·exact k2 x hx⟩
  exact key (jr t) seen hf
theorem Kv {n:Nat} {t:TA} {b:Bool} {s:List Bytes} (h:iA by_ nm n t []=some (b,s)):b=true↔qQ by_ t nm:=by
 refine⟨fun hb=>by subst hb;exact FP n t [] s h,fun hl=>?_⟩;cases b
 ·obtain⟨h1,h2⟩:=Kw n t [] s h
  have hcl:∀r∈s,∀q∈jr (dO by_ r),q≠nm∧q∈s:=fun r hr=>(h1.2 r hr).elim (fun h=>by cases h) id
  have:∀u m,qQ by_ u m→m=nm→(∀r∈jr u,r≠nm∧r∈s)→False:=fun u m hl=>by
   induction hl with
   |here u m h=>intro e hu;exact(hu m h).1 e
   |step u r m h _ ih=>intro e hu;exact ih e (hcl r (hu r h).2)
  exact absurd (this t nm hl rfl h2) id
 ·rfl
theorem xH {α:Type} {p q:α→Bool} (h:∀x,p x=true→q x=true):∀l:List α,(l.filter p).Sublist (l.filter q)
 |[]=>by simp
 |x::l=>by
  have ih:=xH h l;rw[List.filter_cons,List.filter_cons];cases hp:p x
  ·cases hq:q x
   ·simpa using ih
   ·simpa using ih.cons x
  ·rw[h x hp]
   simpa using ih.cons_cons x
theorem AZ {U:List Bytes} (hU:∀r,∀q∈jr (dO by_ r),q∈U):∀(n:Nat) (t:TA) (seen:List Bytes),(∀r∈jr t,r∈U)→(U.filter fun r=> !seen.contains r).length<n→∃b s,iA by_ nm n t seen=some (b,s)∧∀r∈seen,r∈s
 |0,t,seen,_,h=>by omega
 |n+1,t,seen,ht,h=>by
  have hmono:∀{a b:List Bytes},(∀r∈a,r∈b)→(U.filter fun r=> !b.contains r).length≤(U.filter fun r=> !a.contains r).length:=fun{a b} hab=>by
   refine(xH (fun r hr=>?_) U).length_le;simp only[List.contains_eq_mem,Bool.not_eq_true',decide_eq_false_iff_not]at hr⊢;exact fun hm=>hr (hab r hm)
  rw[iA]
  have hf:=AP (st:=jP (iA by_ nm n) by_ nm) (I:=fun s=>∀r∈seen,r∈s) (jr t) (fun s r hr hs=>by
   unfold jP;split
   ·exact⟨_,_,rfl,hs⟩
   ·split
    ·exact⟨_,_,rfl,hs⟩
    ·rename_i hc
     have hc:r∉s:=by simpa using hc
     have hlt:(U.filter fun q=> !(s ++[r]).contains q).length<n:=by
      have h1:(U.filter fun q=> !(s ++[r]).contains q).length<(U.filter fun q=> !s.contains q).length:=by
       have hsub:(U.filter fun q=> !(s ++[r]).contains q).Sublist (U.filter fun q=> !s.contains q):=xH (fun q hq=>by
        simp only[List.contains_eq_mem,Bool.not_eq_true',decide_eq_false_iff_not]at hq⊢
        exact fun hm=>hq (by simp[hm])) U
       rcases Nat.lt_or_ge (U.filter fun q=> !(s ++[r]).contains q).length (U.filter fun q=> !s.contains q).length with h'|h'
       ·exact h'
       ·have he:=hsub.eq_of_length_le h'
        have:r∈U.filter fun q=> !s.contains q:=List.mem_filter.2 ⟨ht r hr,by simp[hc]⟩
        rw[←he]at this;simp at this
      have h2:=hmono hs;omega
     obtain⟨b,s',e,k⟩:=AZ hU n (dO by_ r) (s ++[r]) (hU r) hlt
     exact⟨!b,s',by rw[e],fun q hq=>k q (by simp[hs q hq])⟩) seen fun r hr=>hr
  obtain⟨b,s,e,k⟩:=hf;exact⟨!b,s,by rw[e];rfl,k⟩
theorem Ma {q:Bytes} {r:Bytes} (h:q∈jr (dO by_ r)):∃p∈by_,q∈jr p.2:=by
 unfold dO at h
 cases hf:by_.find? (·.1==r)with
 |none=>rw[hf]at h;simp[default,jY,jr]at h
 |some p=>rw[hf]at h;exact⟨p,List.mem_of_find?_eq_some hf,h⟩
theorem MO (by_:List (Bytes×TA)) (nm:Bytes) (t:TA):∃n b s,iA by_ nm n t []=some (b,s):=by
 obtain⟨b,s,e,_⟩:=AZ (by_:=by_) (nm:=nm) (U:=jr t ++by_.flatMap fun p=>jr p.2) (fun r q hq=>by
  obtain⟨p,hp,hq⟩:=Ma hq
  exact List.mem_append_right _ (List.mem_flatMap.2 ⟨p,hp,hq⟩)) _ t [] (fun r hr=>List.mem_append_left _ hr) (Nat.lt_succ_self _)
 exact⟨_,b,s,e⟩
def qW (by_:List (Bytes×TA)) (nm:Bytes):Prop:=(by_.find? (·.1==nm)).isSome=false∨qQ by_ (dO by_ nm) nm
theorem S9 {e:d9} {nm:Bytes}:(xP e nm).2=(e.by_.find? (·.1==nm)).isSome:=by
 unfold xP Ta;cases e.by_.find? (·.1==nm)<;>rfl
theorem yX {e:d9} {nm:Bytes}:(xP e nm).1=dO e.by_ nm:=by
 unfold xP Ta dO;cases e.by_.find? (·.1==nm)<;>rfl
theorem oh {e:d9} (h:l7 by_ e) (hn:(by_.map (·.1)).Nodup) (nm:Bytes):vg e nm=true↔qW by_ nm:=by
 unfold vg qW;rw[S9,h.hby]
 cases hf:by_.find? (·.1==nm)with
 |none=>simp
 |some p=>
  have hp:=List.mem_of_find?_eq_some hf;have hpn:p.1=nm:=by simpa using List.find?_some (p:=fun q:Bytes×TA=>q.1==nm) hf
  obtain⟨n,b,s,hc,hl⟩:=h.empty p hp;rw[hpn]at hc hl;have hlk:dO by_ nm=p.2:=by unfold dO;rw[hf];rfl
  rw[hlk];simp only[Option.isSome_some,if_true,Bool.true_eq_false,false_or,hl];exact Kv hc
end Go.Ag
/- Spreading ends; what it comes to. -/
namespace Go.Ag
open Go
theorem uw (e:d9):∀n,(∀t ys,bK e n t=some ys→bK e (n+1) t=some ys)∧(∀l ys,bP e n l=some ys→bP e (n+1) l=some ys)
 |0=>⟨fun t ys h=>(by rw[bK]at h;cases h),fun l ys h=>(by rw[bP]at h;cases h)⟩
 |n+1=>by
  obtain⟨h1,h2⟩:=uw e n;refine⟨fun t ys h=>?_,fun l ys h=>?_⟩
  ·obtain⟨k,nm,ns,l⟩:=t
   rw[bK]at h⊢;split at h
   ·rename_i h8
    rw[if_pos h8];split at h
    ·rename_i he;rw[if_pos he];exact h
    ·rename_i he;rw[if_neg he];exact h1 _ _ h
   ·rename_i h8
    rw[if_neg h8];split at h
    ·rename_i h7;rw[if_pos h7];exact h2 _ _ h
    ·rename_i h7;rw[if_neg h7];exact h
  ·cases l with
   |nil=>rw[bP]at h⊢;exact h
   |cons t l=>
    rw[bP]at h⊢
    cases hx:bK e n t with
    |none=>rw[hx]at h;cases h
    |some xs=>
     cases hr:bP e n l with
     |none=>rw[hx,hr]at h;cases h
     |some zs=>
      rw[hx,hr]at h;rw[h1 _ _ hx,h2 _ _ hr];exact h
theorem uy {e:d9} {n m:Nat} (hnm:n≤m) {t:TA} {ys:List TA} (h:bK e n t=some ys):bK e m t=some ys:=by
 induction hnm with
 |refl=>exact h
 |step _ ih=>exact(uw e _).1 _ _ ih
theorem Gi {e:d9} {n m:Nat} (hnm:n≤m) {t:List TA} {ys:List TA} (h:bP e n t=some ys):bP e m t=some ys:=by
 induction hnm with
 |refl=>exact h
 |step _ ih=>exact(uw e _).2 _ _ ih
theorem Lf {e:d9} {n m:Nat} {t:TA} {ys zs:List TA} (h:bK e n t=some ys) (h':bK e m t=some zs):ys=zs:=by
 have h1:=uy (Nat.le_max_left n m) h;have h2:=uy (Nat.le_max_right n m) h';rw[h1]at h2;exact Option.some.inj h2
theorem Aj {e:d9}:∀(l:List TA),(∀x∈l,∃n ys,bK e n x=some ys)→∃n ys,bP e n l=some ys
 |[],_=>⟨1,[],by rw[bP]⟩
 |t::l,h=>by
  obtain⟨n,ys,h1⟩:=h t (by simp);obtain⟨m,zs,h2⟩:=Aj l fun x hx=>h x (by simp[hx])
  refine⟨max n m+1,ys ++zs,?_⟩;rw[bP,uy (Nat.le_max_left n m) h1,Gi (Nat.le_max_right n m) h2]
variable {by_ : List (Bytes × TA)}
theorem J8 {nm:Bytes} (h:(by_.find? (·.1==nm)).isSome=true):nm∈by_.map (·.1):=by
 rw[List.find?_isSome]at h;obtain⟨p,hp,e⟩:=h;exact List.mem_map.2 ⟨p,hp,by simpa using e⟩
theorem Qx {l:List TA} {t:TA} {r:Bytes} (ht:t∈l) (hr:r∈jr t):r∈vC l:=by
 induction l with
 |nil=>cases ht
 |cons x l ih=>
  rw[vC,List.mem_append];rcases List.mem_cons.1 ht with rfl|ht
  ·exact .inl hr
  ·exact .inr (ih ht)
theorem Gj {e:d9} (hE:l7 by_ e) (hnd:(by_.map (·.1)).Nodup):∀(k:Nat) (P:List Bytes),P.Nodup→(∀p∈P,p∈by_.map (·.1))→(by_.map (·.1)).length-P.length=k→∀(w:Nat) (t:TA),wtT t≤w→(∀p∈P,∀r∈jr t,qQ by_ (dO by_ p) r)→∃n ys,bK e n t=some ys:=by
 intro k
 induction k using Nat.strongRecOn with
 |ind k ih=>
  intro P hP hsub hk w
  induction w with
  |zero=>intro t h;have:=BP t;omega
  |succ w ihw=>
   intro t hw hlead;obtain⟨tk,nm,ns,l⟩:=t;rw[jr]at hlead
   by_cases h8:tk=8
   ·rw[if_pos h8]at hlead
    by_cases hem:vg e nm=true
    ·exact⟨1,[dH],by rw[bK,if_pos h8,if_pos hem]⟩
    ·have hne:¬qW by_ nm:=fun h=>hem ((oh hE hnd nm).2 h)
     have hdef:(by_.find? (·.1==nm)).isSome=true:=by
      cases hd:(by_.find? (·.1==nm)).isSome
      ·exact absurd (.inl hd) hne
      ·rfl
     have hkey:=J8 hdef;have hnP:nm∉P:=fun hm=>hne (.inr (hlead nm hm nm (by simp)))
     have hP':(nm::P).Nodup:=List.nodup_cons.2 ⟨hnP,hP⟩
     have hlen:(nm::P).length≤(by_.map (·.1)).length:=hP'.length_le_of_subset fun p hp=>by
      rcases List.mem_cons.1 hp with rfl|hp
      ·exact hkey
      ·exact hsub p hp
     rw[List.length_cons]at hlen
     obtain⟨n,ys,h⟩:=ih (k-1) (by omega) (nm::P) hP' (fun p hp=>by
      rcases List.mem_cons.1 hp with rfl|hp
      ·exact hkey
      ·exact hsub p hp) (by rw[List.length_cons];omega) _ (dO by_ nm) (Nat.le_refl _) (fun p hp r hr=>by
      rcases List.mem_cons.1 hp with rfl|hp
      ·exact .here _ _ hr
      ·exact(hlead p hp nm (by simp)).trans (.here _ _ hr))
     refine⟨n+1,ys,?_⟩;rw[bK,if_pos h8,if_neg hem,yX,hE.hby];exact h
   ·rw[if_neg h8]at hlead
    by_cases h7:tk=7
    ·rw[if_pos h7]at hlead
     rw[wtT]at hw;obtain⟨n,ys,h⟩:=Aj (e:=e) l fun x hx=>ihw x (by have:=gY hx;omega) fun p hp r hr=>hlead p hp r (Qx hx hr)
     exact⟨n+1,ys,by rw[bK,if_neg h8,if_pos h7];exact h⟩
    ·exact⟨1,[.mk tk nm ns l],by rw[bK,if_neg h8,if_neg h7]⟩
inductive Spr (by_:List (Bytes×TA)):TA→TA→Prop where
 |self (t:TA) (h7:t.kind≠7) (h8:t.kind≠8):Spr by_ t t
 |part (nm:Bytes) (ns:List Bytes) (l:List TA) (x y:TA) (hx:x∈l) (h:Spr by_ x y):Spr by_ (.mk 7 nm ns l) y
 |emp (nm:Bytes) (ns:List Bytes) (l:List TA) (h:qW by_ nm):Spr by_ (.mk 8 nm ns l) dH
 |ref (nm:Bytes) (ns:List Bytes) (l:List TA) (y:TA) (he:¬qW by_ nm) (h:Spr by_ (dO by_ nm) y):Spr by_ (.mk 8 nm ns l) y
theorem Ci {e:d9} (hE:l7 by_ e) (hnd:(by_.map (·.1)).Nodup):∀n,(∀t ys,bK e n t=some ys→∀y,y∈ys↔Spr by_ t y)∧(∀l ys,bP e n l=some ys→∀y,y∈ys↔∃x∈l,Spr by_ x y)
 |0=>⟨fun t ys h=>(by rw[bK]at h;cases h),fun l ys h=>(by rw[bP]at h;cases h)⟩
 |n+1=>by
  obtain⟨h1,h2⟩:=Ci hE hnd n;refine⟨fun t ys h y=>?_,fun l ys h y=>?_⟩
  ·obtain⟨k,nm,ns,l⟩:=t
   rw[bK]at h;split at h
   ·rename_i h8
    subst h8;split at h
    ·rename_i he
     cases h;have he:=(oh hE hnd nm).1 he;rw[List.mem_singleton];refine⟨fun h=>by subst h;exact .emp nm ns l he,fun h=>?_⟩
     cases h with
     |self _ _ h8=>exact absurd rfl h8
     |emp=>rfl
     |ref _ _ _ _ hn=>exact absurd he hn
    ·rename_i he
     have he:¬qW by_ nm:=fun h=>he ((oh hE hnd nm).2 h)
     rw[yX,hE.hby]at h;rw[h1 _ _ h y];refine⟨fun h=>.ref nm ns l y he h,fun h=>?_⟩
     cases h with
     |self _ _ h8=>exact absurd rfl h8
     |emp _ _ _ hn=>exact absurd hn he
     |ref _ _ _ _ _ h=>exact h
   ·rename_i h8
    split at h
    ·rename_i h7
     subst h7;rw[h2 _ _ h y];refine⟨fun⟨x,hx,hs⟩=>.part nm ns l x y hx hs,fun h=>?_⟩
     cases h with
     |self _ h7 _=>exact absurd rfl h7
     |part _ _ _ x _ hx hs=>exact⟨x,hx,hs⟩
    ·rename_i h7
     cases h;rw[List.mem_singleton];refine⟨fun h=>by subst h;exact .self _ h7 h8,fun h=>?_⟩
     cases h with
     |self=>rfl
     |part=>exact absurd rfl h7
     |emp=>exact absurd rfl h8
     |ref=>exact absurd rfl h8
  ·cases l with
   |nil=>
    rw[bP]at h;cases h;exact⟨fun h=>(by cases h),fun⟨x,hx,_⟩=>(by cases hx)⟩
   |cons t l=>
    rw[bP]at h
    cases hx:bK e n t with
    |none=>rw[hx]at h;cases h
    |some xs=>
     cases hr:bP e n l with
     |none=>rw[hx,hr]at h;cases h
     |some zs=>
      rw[hx,hr]at h;cases h;rw[List.mem_append,h1 _ _ hx y,h2 _ _ hr y];refine⟨fun h=>?_,fun⟨x,hx,hs⟩=>?_⟩
      ·rcases h with h|⟨x,hx,h⟩
       ·exact⟨t,by simp,h⟩
       ·exact⟨x,by simp[hx],h⟩
      ·rcases List.mem_cons.1 hx with rfl|hx
       ·exact .inl hs
       ·exact .inr ⟨x,hx,hs⟩
noncomputable def Cj (e:d9) (t:TA):List TA:=open Classical in if h:∃n ys,bK e n t=some ys then h.choose_spec.choose else[]
theorem U4 {e:d9} {n:Nat} {t:TA} {ys:List TA} (h:bK e n t=some ys):Cj e t=ys:=by
 have hx:∃n ys,bK e n t=some ys:=⟨n,ys,h⟩;unfold Cj;rw[dif_pos hx];exact Lf hx.choose_spec.choose_spec h
theorem zx {e:d9} (hE:l7 by_ e) (hnd:(by_.map (·.1)).Nodup) (t:TA):∃n,bK e n t=some (Cj e t):=by
 obtain⟨n,ys,h⟩:=Gj hE hnd _ [] (by simp) (fun p hp=>by cases hp) rfl _ t (Nat.le_refl _) (fun p hp=>by cases hp);exact⟨n,by rw[U4 h];exact h⟩
theorem rC {e:d9} (hE:l7 by_ e) (hnd:(by_.map (·.1)).Nodup) (t y:TA):y∈Cj e t↔Spr by_ t y:=by
 obtain⟨n,h⟩:=zx hE hnd t;exact(Ci hE hnd n).1 _ _ h y
theorem yK (hb:∀p∈by_,NT p.2) {nm:Bytes} (h:¬qW by_ nm):NT (dO by_ nm)∧∃p∈by_,dO by_ nm=p.2:=by
 unfold qW at h
 cases hf:by_.find? (·.1==nm)with
 |none=>exact absurd (.inl (by rw[hf];rfl)) h
 |some p=>
  have hp:=List.mem_of_find?_eq_some hf;have:dO by_ nm=p.2:=by unfold dO;rw[hf];rfl
  exact⟨by rw[this];exact hb p hp,p,hp,this⟩
theorem Spr.nt (hb:∀p∈by_,NT p.2) {t y:TA} (h:Spr by_ t y):NT t→NT y∧y.kind≠7∧y.kind≠8:=by
 induction h with
 |self t h7 h8=>exact fun ht=>⟨ht,h7,h8⟩
 |part nm ns l x y hx h ih=>exact fun ht=>ih (ht.parts x hx)
 |emp nm ns l h=>exact fun _=>⟨.dyn,by decide,by decide⟩
 |ref nm ns l y he h ih=>exact fun _=>ih (yK hb he).1
theorem Spr.some (hb:∀p∈by_,NT p.2) {e:d9} (hE:l7 by_ e) (hnd:(by_.map (·.1)).Nodup):∀(n:Nat) (t:TA) (ys:List TA),NT t→bK e n t=Option.some ys→ys≠[]:=by
 intro n
 induction n using Nat.strongRecOn with
 |ind n ih=>
 intro t ys ht h
 cases n with
 |zero=>rw[bK]at h;cases h
 |succ n=>
  obtain⟨k,nm,ns,l⟩:=t;rw[bK]at h;split at h
  ·split at h
   ·cases h;simp
   ·rename_i he
    have he:¬qW by_ nm:=fun h=>he ((oh hE hnd nm).2 h)
    rw[yX,hE.hby]at h;exact ih n (Nat.lt_succ_self n) _ ys (yK hb he).1 h
  ·split at h
   ·rename_i h7
    subst h7;have hl:l≠[]∧∀x∈l,NT x:=by cases ht with|uni l h2 h=>exact⟨by rintro rfl;simp at h2,h⟩
    obtain⟨m,rfl⟩:∃m,n=m+1:=by cases n with
     |zero=>rw[bP]at h;cases h
     |succ m=>exact⟨m,rfl⟩
    cases l with
    |nil=>exact absurd rfl hl.1
    |cons t l=>
     rw[bP]at h
     cases hx:bK e m t with
     |none=>rw[hx]at h;cases h
     |some xs=>
      cases hr:bP e m l with
      |none=>rw[hx,hr]at h;cases h
      |some zs=>
       rw[hx,hr]at h;cases h;have:=ih m (by omega) t xs (hl.2 t (by simp)) hx;intro e;exact this (List.append_eq_nil_iff.1 e).1
   ·cases h;simp
end Go.Ag
/- Package sub: under. -/
namespace Go.Ag
open Go
variable {T : Tab} {L : Lnk}
end Go.Ag
/- Package sub: related; Sub, Fits, Equal. -/
namespace Go.Ag
open Go
variable {T : Tab} {L : Lnk}
end Go.Ag
/- A judge over good definitions and types answers as the greatest sound relation does. -/
namespace Go.Ag
open Go
structure kS (by_:List (Bytes×TA)) (e:d9) (C:List TA):Prop where
 ok:l7 by_ e
 nodup:(by_.map (·.1)).Nodup
 mem:∀p∈by_,p.2∈C
 nt:∀t∈C,NT t
 cl:∀t∈C,∀x∈t.l,x∈C
 wt:∀t∈C,wtT t≤2^30
 fin:C.length≤2^19
 XT:∀t∈C,(Cj e t).length≤2^30
def GC' (C:List TA) (t:TA):Prop:=GT t∧wtT t≤2^30∧aU t∈C
noncomputable def hdE (e:d9) (t:TA):List TA:=mM (Cj e (aU t))
variable {by_ : List (Bytes × TA)} {e : d9} {C : List TA}
theorem kS.YO (W:kS by_ e C):∀p∈by_,NT p.2:=fun p hp=>W.nt _ (W.mem p hp)
theorem kS.spr (W:kS by_ e C) {t y:TA} (h:Spr by_ t y):t∈C→y=dH∨y∈C:=by
 induction h with
 |self t h7 h8=>exact fun ht=>.inr ht
 |part nm ns l x y hx h ih=>exact fun ht=>ih (W.cl _ ht x hx)
 |emp nm ns l h=>exact fun _=>.inl rfl
 |ref nm ns l y he h ih=>
  obtain⟨_,p,hp,h2⟩:=yK W.YO he;exact fun _=>ih (by rw[h2];exact W.mem p hp)
theorem kS.some (W:kS by_ e C) (t:TA) (ht:t∈C):∃n,bK e n t=some (Cj e t)∧Cj e t≠[]∧∀y∈Cj e t,NT y∧y.kind≠7∧y.kind≠8:=by
 obtain⟨n,h⟩:=zx W.ok W.nodup t;exact⟨n,h,Spr.some W.YO W.ok W.nodup n t _ (W.nt t ht) h,fun y hy=>((rC W.ok W.nodup t y).1 hy).nt W.YO (W.nt t ht)⟩
theorem kS.head (W:kS by_ e C) {t h:TA} (ht:GC' C t) (hh:h∈hdE e t):h=dH∨(h∈C∧h.kind≠7∧h.kind≠8):=by
 rcases JO hh with h|h
 ·exact .inl h
 ·obtain⟨_,_,_,h3⟩:=W.some _ ht.2.2
  rcases W.spr ((rC W.ok W.nodup _ _).1 h) ht.2.2 with h'|h'
  ·exact .inl h'
  ·exact .inr ⟨h',(h3 _ h).2⟩
theorem kS.Ms (W:kS by_ e C) {t h:TA} (ht:GC' C t) (hh:h∈hdE e t):NT h∧wtT h≤2^30:=by
 rcases W.head ht hh with rfl|h
 ·exact⟨.dyn,by decide⟩
 ·exact⟨W.nt _ h.1,W.wt _ h.1⟩
end Go.Ag
/- The greatest sound relation: laws of it. -/
namespace Go.Ag
open Go
section
variable {G : TA → Prop} {hd : TA → List TA} {loose : Bool}
end
mutual
def iO :TA→List TA
 |.mk k nm ns l=>.mk k nm ns l::uq l
def uq :List TA→List TA
 |[]=>[]
 |t::l=>iO t ++uq l
end
theorem rz {l:List TA} {x:TA}:x∈uq l↔∃t∈l,x∈iO t:=by
 induction l with
 |nil=>simp[uq]
 |cons t l ih=>rw[uq,List.mem_append,ih];simp
theorem ru (t:TA):t∈iO t:=by obtain⟨k,nm,ns,l⟩:=t;rw[iO];simp
theorem yh :∀(n:Nat) (t:TA),wtT t≤n→(∀x∈iO t,wtT x≤wtT t∧∀y∈x.l,y∈iO t)∧16*(iO t).length≤wtT t
 |0,t,h=>by have:=BP t;omega
 |n+1,t,h=>by
  have ih:=yh n;obtain⟨k,nm,ns,l⟩:=t;rw[wtT]at h;have hl:∀t∈l,wtT t+8≤wtL l:=fun t ht=>gY ht
  have hlen:16*(uq l).length≤wtL l:=by
   have:∀m:List TA,(∀t∈m,wtT t≤n)→16*(uq m).length≤wtL m:=by
    intro m
    induction m with
    |nil=>intro _;simp[uq]
    |cons t m ihm=>
     intro hm;rw[uq,List.length_append,wtL];have h1:=(ih t (hm t (by simp))).2;have h2:=ihm fun x hx=>hm x (by simp[hx])
     omega
   exact this l fun t ht=>by have:=hl t ht;omega
  refine⟨fun x hx=>?_,?_⟩
  ·rw[iO]at hx
   rcases List.mem_cons.1 hx with rfl|hx
   ·refine⟨Nat.le_refl _,fun y hy=>?_⟩
    rw[iO];exact List.mem_cons_of_mem _ (rz.2 ⟨y,hy,ru y⟩)
   ·obtain⟨t,ht,hx⟩:=rz.1 hx
    have h1:=hl t ht;obtain⟨k1,k2⟩:=(ih t (by omega)).1 x hx;refine⟨by rw[wtT];omega,fun y hy=>?_⟩;rw[iO];exact List.mem_cons_of_mem _ (rz.2 ⟨t,ht,k2 y hy⟩)
  ·rw[iO,List.length_cons,wtT];omega
theorem Ni :∀(n:Nat) (t:TA),wtT t≤n→NT t→∀x∈iO t,NT x
 |0,t,h=>by have:=BP t;omega
 |n+1,t,h=>by
  have ih:=Ni n;intro hn x hx;have hp:=hn.parts;obtain⟨k,nm,ns,l⟩:=t;rw[wtT]at h;rw[iO]at hx;rcases List.mem_cons.1 hx with rfl|hx
  ·exact hn
  ·obtain⟨t,ht,hx⟩:=rz.1 hx
   have:=gY ht;exact ih t (by omega) (hp t ht) x hx
variable {by_ : List (Bytes × TA)} {e : d9} {C : List TA}
theorem kS.uN (W:kS by_ e C) {t x:TA} (ht:GC' C t):x∈hdE e t↔(Spr by_ (aU t) dH∧x=dH)∨(¬Spr by_ (aU t) dH∧Spr by_ (aU t) x):=by
 obtain⟨_,_,h2,h3⟩:=W.some _ ht.2.2;have hi:=fun y=>rC W.ok W.nodup (aU t) y
 have hany:(Cj e (aU t)).any (fun t=>t.kind==4)=true↔Spr by_ (aU t) dH:=by
  rw[List.any_eq_true];refine⟨fun⟨y,hy,h4⟩=>?_,fun h=>⟨dH,(hi dH).2 h,rfl⟩⟩;have:=(h3 y hy).1.Dz (by simpa using h4);rw[←this];exact(hi y).1 hy
 unfold hdE mM
 by_cases hd:Spr by_ (aU t) dH
 ·rw[if_pos (hany.2 hd),List.mem_singleton]
  simp[hd]
 ·rw[if_neg fun h=>hd (hany.1 h),sQ fun y hy=>(h3 y hy).1,hi]
  simp[hd]
theorem yj {t x:TA} (h7:t.kind≠7) (h8:t.kind≠8):Spr by_ t x↔x=t:=by
 refine⟨fun h=>?_,fun h=>by subst h;exact .self _ h7 h8⟩
 cases h with
 |self=>rfl
 |part=>exact absurd rfl h7
 |emp=>exact absurd rfl h8
 |ref=>exact absurd rfl h8
theorem Nk {l:List TA} {x:TA}:Spr by_ (.mk 7 [] [] l) x↔∃t∈l,Spr by_ t x:=by
 refine⟨fun h=>?_,fun⟨t,ht,h⟩=>.part [] [] l t x ht h⟩
 cases h with
 |self h h7 _=>exact absurd rfl h7
 |part _ _ _ t _ ht h=>exact⟨t,ht,h⟩
end Go.Ag
/- Heads of a union. -/
namespace Go.Ag
open Go
variable {by_ : List (Bytes × TA)} {e : d9} {C : List TA}
theorem ED {t x:TA} (ht:NT t):Spr by_ t x↔∃p∈fu t,Spr by_ p x:=by
 unfold fu;split
 ·rename_i h7
  cases ht with
  |uni l=>exact Nk
  |_=>cases h7
 ·simp
theorem Lg {l:List TA} {x:TA} (h0:l≠[]):Spr by_ (ow l) x↔∃p∈l,Spr by_ p x:=by
 match l,h0 with
 |[t],_=>simp[ow]
 |t::u::l,_=>exact Nk
theorem QX {l:List TA} {x:TA} (hl:∀t∈l,NT t):(∃t∈l,Spr by_ t x)↔∃p∈aP l,Spr by_ p x:=by
 refine⟨fun⟨t,ht,h⟩=>?_,fun⟨p,hp,h⟩=>?_⟩
 ·obtain⟨p,hp,h⟩:=(ED (hl t ht)).1 h
  exact⟨p,rW.2 ⟨t,ht,hp⟩,h⟩
 ·obtain⟨t,ht,hp⟩:=rW.1 hp
  exact⟨t,ht,(ED (hl t ht)).2 ⟨p,hp,h⟩⟩
theorem IE {l:List TA} (hl:∀t∈l,GT t) (h0:l≠[]):(Spr by_ (aU (.mk 7 [] [] l)) dH↔∃t∈l,Spr by_ (aU t) dH)∧((¬∃t∈l,Spr by_ (aU t) dH)→∀x,Spr by_ (aU (.mk 7 [] [] l)) x↔∃t∈l,Spr by_ (aU t) x):=by
 have hN:∀t∈bX l,NT t:=fun t ht=>by
  rw[dX]at ht;obtain⟨u,hu,rfl⟩:=List.mem_map.1 ht;exact uL (hl u hu)
 have hmap:∀x,(∃t∈l,Spr by_ (aU t) x)↔∃p∈aP (bX l),Spr by_ p x:=fun x=>by
  rw[←QX hN,dX];refine⟨fun⟨t,ht,h⟩=>⟨aU t,List.mem_map.2 ⟨t,ht,rfl⟩,h⟩,fun⟨t,ht,h⟩=>?_⟩;obtain⟨u,hu,rfl⟩:=List.mem_map.1 ht;exact⟨u,hu,h⟩
 have hne:aP (bX l)≠[]:=J7 hN (by rw[dX];simpa using h0);have hf:=uX hN;rw[aU,if_pos rfl,o7]
 cases hd:(aP (bX l)).find? (fun t=>t.kind==4)with
 |some t=>
  have hm:=List.mem_of_find?_eq_some hd;have h4:t.kind=4:=by simpa using List.find?_some (p:=fun t:TA=>t.kind==4) hd
  have:=(hf t hm).1.Dz h4;subst this;have hdyn:∃t∈l,Spr by_ (aU t) dH:=(hmap dH).2 ⟨dH,hm,.self _ (by decide) (by decide)⟩;exact⟨⟨fun _=>hdyn,fun _=>.self dH (show dH.kind≠7 by decide) (show dH.kind≠8 by decide)⟩,fun h=>absurd hdyn h⟩
 |none=>
  have key:∀x,Spr by_ (ow (gZ (aP (bX l)))) x↔∃t∈l,Spr by_ (aU t) x:=fun x=>by
   rw[Lg (vM hne),hmap];refine⟨fun⟨p,hp,h⟩=>⟨p,nu hp,h⟩,fun⟨p,hp,h⟩=>⟨p,(sQ fun t ht=>(hf t ht).1).2 hp,h⟩⟩
  exact⟨key dH,fun _=>key⟩
theorem kS.Yq (W:kS by_ e C) {t u x:TA} (ht:GC' C t) (hu:aU t=u) (h7:u.kind≠7) (h8:u.kind≠8):x∈hdE e t↔x=u:=by
 rw[W.uN ht,hu,yj h7 h8,yj h7 h8]
 by_cases h:dH=u
 ·subst h;simp
 ·simp[h]
theorem kS.Yp (W:kS by_ e C) {t u v x:TA} (ht:GC' C t) (hu:∀x,Spr by_ (aU t) x↔x=u∨x=v) (h4:u.kind≠4) (h5:v.kind≠4):x∈hdE e t↔x=u∨x=v:=by
 rw[W.uN ht,hu,hu];have h1:¬(dH=u∨dH=v):=fun h=>h.elim (fun h=>h4 (by rw[←h];rfl)) (fun h=>h5 (by rw[←h];rfl))
 simp[h1]
end Go.Ag
/- Abstract codes, printed by a program of ours (acode.py) out of the given program's form. -/
namespace Go.Ag
open Go
def Ov :aN:=(.mk 1 21 [2] (.seq (.ops [(.d 1 (.box 109 0)),(.d 2 (.mv (.const (.i 0))))]) (.seq (.ops [(.d 3 (.mv (.const (.i 1))))]) (.seq (.seq (.ops [(.d 4 (.mv (.const (.i 0))))]) (.block 0 (.loop (.seq (.seq (.ops [(.d 5 (.mv 4)),(.d 6 (.aB 3 1)),(.d 7 (.load none 6)),(.d 8 (.iw 7)),(.d 9 (.bin .lss 5 8))]) (.cond 9 .skip (.exit 0))) (.seq (.block 1 (.ops [(.d 12 (.mv 3)),(.d 13 (.aB 3 1)),(.d 14 (.load none 13)),(.d 15 (.mv 4)),(.d 16 (.bE 4 14 15)),(.d 17 (.load (some 4) 16)),(.d 18 (.call 190 [17])),(.d 19 (.bin .add 12 18)),(.d 3 (.mv 19))])) (.ops [(.d 10 (.mv 4)),(.d 11 (.bin .add 10 (.const (.i 1)))),(.d 4 (.mv 11))])))))) (.seq (.ops [(.d 20 (.mv 3)),(.d 2 (.mv 20))]) .ret)))))
def Uq :aN:=(.mk 1 21 [2] (.seq (.ops [(.d 2 (.mv (.const (.bool false))))]) (.seq (.ops [(.d 3 (.mv (.const (.i 0))))]) (.seq (.seq (.ops [(.d 4 (.mv (.const (.i 0))))]) (.block 0 (.loop (.seq (.seq (.ops [(.d 5 (.mv 4)),(.d 6 (.mv 0)),(.d 7 (.iw 6)),(.d 8 (.bin .lss 5 7))]) (.cond 8 .skip (.exit 0))) (.seq (.block 1 (.ops [(.d 11 (.mv 3)),(.d 12 (.mv 0)),(.d 13 (.mv 4)),(.d 14 (.bE 5 12 13)),(.d 15 (.aB 1 14)),(.d 16 (.load (some 4) 15)),(.d 17 (.call 190 [16])),(.d 18 (.bin .add 11 17)),(.d 3 (.mv 18))])) (.ops [(.d 9 (.mv 4)),(.d 10 (.bin .add 9 (.const (.i 1)))),(.d 4 (.mv 10))])))))) (.seq (.ops [(.d 19 (.mv 3)),(.d 20 (.bin .leq 19 (.const (.i 60)))),(.d 2 (.mv 20))]) .ret)))))
def Oy :aN:=(.mk 1 75 [2,3,4] (.seq (.ops [(.d 2 (.mv (.const .fA))),(.d 3 (.mv (.const .nl))),(.d 4 (.mv (.const (.bool false))))]) (.seq (.seq (.ops [(.d 12 (.mv 0)),(.d 13 (.pY 12)),(.d 14 (.bin .gtr 13 (.const (.i 600))))]) (.cond 14 (.seq (.ops [(.d 2 (.mv (.const .fA))),(.d 3 (.mv (.const .nl))),(.d 4 (.mv (.const (.bool false))))]) .ret) .skip)) (.seq (.ops [(.d 16 (.mv 0)),(.d 17 (.call 189 [16])),(.d 15 (.mv 17)),(.d 18 (.ext 15 0)),(.d 19 (.ext 15 1)),(.d 5 (.mv 18)),(.d 6 (.mv 19))]) (.seq (.ops [(.d 21 (.mv 0)),(.d 22 (.call 24 [21])),(.d 20 (.mv 22)),(.d 23 (.ext 20 0)),(.d 24 (.ext 20 1)),(.d 7 (.mv 23)),(.d 8 (.mv 24))]) (.seq (.ops [(.d 9 (.mv (.const .nl)))]) (.seq (.ops [(.d 10 (.mv (.const .nl)))]) (.seq (.seq (.ops [(.d 11 (.mv (.const (.i 0))))]) (.block 0 (.loop (.seq (.seq (.ops [(.d 25 (.mv 11)),(.d 26 (.mv 5)),(.d 27 (.iw 26)),(.d 28 (.bin .lss 25 27))]) (.cond 28 .skip (.exit 0))) (.seq (.block 1 (.seq (.ops [(.d 31 (.mv 5)),(.d 32 (.mv 11)),(.d 33 (.bE 5 31 32)),(.d 34 (.aB 0 33)),(.d 35 (.load none 34)),(.d 36 (.bin .eql 35 (.const (.i 2))))]) (.cond 36 (.seq (.draw [(.d 37 (.mv 9)),(.d 38 (.mv 5)),(.d 39 (.mv 11)),(.d 40 (.bE 5 38 39)),(.d 41 (.aB 2 40)),(.d 42 (.load none 41)),(.d 43 (.mv 5)),(.d 44 (.mv 11)),(.d 45 (.bE 5 43 44)),(.d 46 (.aB 3 45)),(.d 47 (.load none 46)),(.d 48 (.bE 4 47 (.const (.i 0)))),(.d 49 (.load (some 4) 48)),(.d 50 (.build [(.str []),(.i 0),(.str []),.nl,.nl] [(0,(1,42)),(1,(4,49))])),(.d 51 (.lit 5 88 [] 1 [(0,50)]))] [(.d 52 (.append 5 88 182 37 51)),(.d 9 (.mv 52))]) (.draw [(.d 53 (.mv 10)),(.d 54 (.mv 7)),(.d 55 (.mv 11)),(.d 56 (.bE 5 54 55)),(.d 57 (.aB 2 56)),(.d 58 (.load none 57)),(.d 59 (.mv 7)),(.d 60 (.mv 11)),(.d 61 (.bE 5 59 60)),(.d 62 (.aB 3 61)),(.d 63 (.load none 62)),(.d 64 (.bE 4 63 (.const (.i 0)))),(.d 65 (.load (some 4) 64)),(.d 66 (.build [(.str []),(.i 0),(.str []),.nl,.nl] [(0,(1,58)),(1,(4,65))])),(.d 67 (.lit 5 88 [] 1 [(0,66)]))] [(.d 68 (.append 5 88 244 53 67)),(.d 10 (.mv 68))])) .skip))) (.ops [(.d 29 (.mv 11)),(.d 30 (.bin .add 29 (.const (.i 1)))),(.d 11 (.mv 30))])))))) (.seq (.ops [(.d 69 (.mv 9)),(.d 70 (.call 144 [69])),(.d 71 (.mv 10)),(.d 72 (.mv 9)),(.d 73 (.iw 72)),(.d 74 (.bin .leq 73 (.const (.i 8)))),(.d 2 (.mv 70)),(.d 3 (.mv 71)),(.d 4 (.mv 74))]) .ret)))))))))
end Go.Ag
/- Package types: all, Size. -/
namespace Go.Ag
open Go
variable {T : Tab} {L : Lnk}
mutual
def allT :TA→List TA
 |.mk k nm ns l=>.mk k nm ns l::Ab l
def Ab :List TA→List TA
 |[]=>[]
 |t::l=>allT t ++Ab l
end
end Go.Ag
/- Package parse: expressions: the document's reader gives up once; the fields of a record. -/
namespace Go.Ag
open Go
structure BadEx (n:Nat):Prop where
 expr:∀(d:Nat) (s:RS),s.bad=true→(bY n d s).2=s
 fn:∀(d:Nat) (a:Int) (p:dB×RS),p.2.bad=true→(Bl n d a p).2=p.2
 lt:∀(d:Nat) (a:Int) (p:dB×RS),p.2.bad=true→(Bh n d a p).2=p.2
 ie:∀(d:Nat) (a:Int) (s:RS),s.bad=true→(ifR n d a s).2=s
 el:∀(d:Nat) (a:Int) (x:EA) (q:EA×RS),q.2.bad=true→(tV n d a x q).2=q.2
 post:∀(d:Nat) (x:EA) (s:RS),s.bad=true→(lX n d x s).2=s
 basic:∀(d:Nat) (s:RS),s.bad=true→(fE n d s).2=s
 as_:∀(d:Nat) (a:Int) (q:EA×RS),q.2.bad=true→(asR n d a q).2=q.2
 fields:∀(d:Nat) (a:Int) (names:List Bytes) (l:List EA) (s:RS),s.bad=true→(fD n d a names l s).2=s
theorem dK :∀n:Nat,BadEx n:=by
 intro n
 induction n with
 |zero=>exact⟨fun d s h=>by unfold bY;rfl,fun d a p h=>by unfold Bl;rfl,fun d a p h=>by unfold Bh;rfl,fun d a s h=>by unfold ifR;rfl,fun d a x q h=>by unfold tV;rfl,fun d x s h=>by unfold lX;rfl,fun d s h=>by unfold fE;rfl,fun d a q h=>by unfold asR;rfl,fun d a ns l s h=>by unfold fD;rfl⟩
 |succ n ih=>
  refine⟨fun d s h=>?_,fun d a p h=>?_,fun d a p h=>?_,fun d a s h=>?_,fun d a x q h=>?_,fun d x s h=>?_,fun d s h=>?_,fun d a q h=>?_,fun d a ns l s h=>?_⟩
  ·unfold bY
   rw[show jU d s=s from by unfold jU;rw[zV h];split<;>rfl,if_pos h]
  ·unfold Bl
   rw[bI h,if_pos h]
  ·unfold Bh
   dsimp only;rw[bI h,ih.expr _ _ h,bI h,ih.expr _ _ h]
  ·unfold ifR
   rw[ih.expr _ _ h,bI h,ih.el _ _ _ _ (by rw[ih.expr _ _ h];exact h),ih.expr _ _ h]
  ·unfold tV
   dsimp only;rw[bI h,ih.expr _ _ h]
  ·unfold lX
   rw[kP h,kP h,if_neg (by simp),if_neg (by simp)]
  ·unfold fE
   rw[if_pos h]
  ·rw[asR,kP h,if_neg (by simp)]
   exact bI h _
  ·unfold fD
   rw[h,kP h,if_neg (by simp)];exact bI h _
def eSt (d:Nat):Nat→Bytes→List (Bytes×EA)→RS→List (Bytes×EA)×RS:=fun n nm x s=>
 (if nm=[]∨(bY n (d+1) s).2.bad=true then x else x ++[(nm,(bY n (d+1) s).1)],(bY n (d+1) s).2)
theorem vo (d:Nat) (at_:Int):∀(n:Nat) (x:List (Bytes×EA)) (s:RS),s.ok→6*s.rem+8≤n→
  (fD n d at_ (x.map (·.1)) (x.map (·.2)) s).2=(dL kEq (eSt d) n (x.map (·.1)) x s).2∧
  ((dL kEq (eSt d) n (x.map (·.1)) x s).2.bad=false→(fD n d at_ (x.map (·.1)) (x.map (·.2)) s).1=.mk 5 at_ [] 0 ((dL kEq (eSt d) n (x.map (·.1)) x s).1.map (·.1)) ((dL kEq (eSt d) n (x.map (·.1)) x s).1.map (·.2)) [])
 |0,x,s,hs,hf=>by omega
 |n+1,x,s,hs,hf=>by
  rw[fD,dL]
  by_cases h1:(!s.bad&& !isR s kRb)=true
  ·rw[if_pos h1,if_pos h1]
   by_cases h2:(aD (aK s).2 kEq).bad=true
   ·rw[if_pos h2,if_pos h2]
    exact⟨rfl,fun e=>by rw[h2]at e;cases e⟩
   ·rw[if_neg h2,if_neg h2]
    have h2':(aD (aK s).2 kEq).bad=false:=by simpa using h2
    have k1:=lu hs kEq h2';have k2:=(bT hs).trans (aM (hs.of (bT hs)) kEq);have htr:=su hs kEq h2'
    by_cases h3:lT (x.map (·.1)) (aK s).1.text=true
    ·rw[if_pos h3,if_pos h3]
     have k3:=(gq n).expr (d+1) _ (hs.of k1);have k4:=gX ((hs.of k1).of k3);have r1:=k3.rem;have r2:=k4.rem;have r3:(gF (aD (aK s).2 kEq) (aK s).1).rem=(aD (aK s).2 kEq).rem:=rfl;have:=vo d at_ n x _ (((hs.of k1).of k3).of k4) (by omega);exact this
    ·rw[if_neg h3,if_neg h3]
     obtain⟨h4,_,_⟩:=jc h2';obtain⟨_,h6,h7⟩:=pW h4
     have hne:(aK s).1.text≠[]:=by
      rw[h7];exact hs.named _ (List.mem_of_getElem? (uo hs)) h6
     have k3:=(gq n).expr (d+1) _ (hs.of k2);have k4:=gX ((hs.of k2).of k3);have hok:=((hs.of k2).of k3).of k4;have r1:=k3.rem;have r2:=k4.rem;simp only[eSt];generalize bY n (d+1) (aD (aK s).2 kEq)=q at hok k3 k4 r1 r2⊢
     by_cases h5:q.2.bad=true
     ·rw[if_pos (.inr h5),tN h5,l6 h5]
      exact⟨(dK n).fields _ _ _ _ _ h5,fun e=>by rw[h5]at e;cases e⟩
     ·rw[if_neg (fun e=>e.elim hne h5)]
      have:=vo d at_ n (x ++[((aK s).1.text,q.1)]) _ hok (by omega);rw[List.map_append,List.map_append]at this;exact this
  ·rw[if_neg h1,if_neg h1]
   exact⟨rfl,fun _=>rfl⟩
end Go.Ag
/- Abstract codes, printed by a program of ours (acode.py) out of the given program's form. -/
namespace Go.Ag
open Go
def Tz :aN:=(.mk 2 93 [(.cell 4 (some 7))] (.seq (.ops [(.d 4 (.alloc [(.i 0),(.i 0),(.str []),(.i 0),.nl,.nl,.nl] 313))]) (.seq (.ops [(.d 9 (.mv 0)),(.d 10 (.mv 1)),(.d 11 (.call 219 [9,10]))]) (.seq (.ops [(.d 12 (.mv 0)),(.d 13 (.call 218 [12])),(.d 14 (.fld 1 none 13)),(.d 15 (.build [(.i 0),(.i 0),(.str []),(.i 0),.nl,.nl,.nl] [(1,(1,14))])),(.d 5 (.alloc [(.i 0),(.i 0),(.str []),(.i 0),.nl,.nl,.nl] 313)),(.n (.store 7 5 15))]) (.seq (.block 0 (.seq (.ops [(.d 20 (.mv 0)),(.d 21 (.call 221 [20,(.const (.str [102,117,110]))])),(.d 19 (.mv 21))]) (.cond 19 (.seq (.ops [(.d 22 (.mv 0)),(.d 23 (.call 260 [22,(.const (.str [40]))]))]) (.seq (.ops [(.d 24 (.mv 0)),(.d 25 (.call 259 [24])),(.d 26 (.fld 2 none 25)),(.d 27 (.aB 0 5)),(.n (.store 1 27 (.const (.i 8)))),(.d 28 (.aB 2 5)),(.n (.store 1 28 26))]) (.seq (.ops [(.d 29 (.mv 0)),(.d 30 (.call 260 [29,(.const (.str [58]))]))]) (.seq (.ops [(.d 31 (.mv 0)),(.d 32 (.mv 1)),(.d 33 (.bin .add 32 (.const (.i 1)))),(.d 34 (.call 184 [31,33])),(.d 35 (.lit 4 72 [] 1 [(0,34)])),(.d 36 (.aB 6 5)),(.n (.store 1 36 35))]) (.seq (.ops [(.d 37 (.mv 0)),(.d 38 (.call 260 [37,(.const (.str [41]))]))]) (.ops [(.d 39 (.mv 0)),(.d 40 (.mv 1)),(.d 41 (.bin .add 40 (.const (.i 1)))),(.d 42 (.call 261 [39,41])),(.d 43 (.lit 7 112 [] 1 [(0,42)])),(.d 44 (.aB 5 5)),(.n (.store 1 44 43))])))))) (.seq (.ops [(.d 46 (.mv 0)),(.d 47 (.call 221 [46,(.const (.str [108,101,116]))])),(.d 45 (.mv 47))]) (.cond 45 (.seq (.ops [(.d 48 (.mv 0)),(.d 49 (.call 259 [48])),(.d 50 (.fld 2 none 49)),(.d 51 (.aB 0 5)),(.n (.store 1 51 (.const (.i 9)))),(.d 52 (.aB 2 5)),(.n (.store 1 52 50))]) (.seq (.ops [(.d 53 (.mv 0)),(.d 54 (.call 260 [53,(.const (.str [61]))]))]) (.seq (.ops [(.d 55 (.mv 0)),(.d 56 (.mv 1)),(.d 57 (.bin .add 56 (.const (.i 1)))),(.d 58 (.call 261 [55,57])),(.d 6 (.alloc [(.i 0),(.i 0),(.str []),(.i 0),.nl,.nl,.nl] 313)),(.n (.store 7 6 58))]) (.seq (.ops [(.d 59 (.mv 0)),(.d 60 (.call 260 [59,(.const (.str [105,110]))]))]) (.gV [(.d 61 (.load (some 7) 6)),(.d 62 (.mv 0)),(.d 63 (.mv 1)),(.d 64 (.bin .add 63 (.const (.i 1))))] (.alt (.d 65 (.call 261 [62,64])) [((some 7),6)] (.alt (.d 66 (.lit 7 112 [] 2 [(0,61),(1,65)])) [] (.alt (.d 67 (.aB 5 5)) [] (.alt (.n (.store 1 67 66)) [] .done .stop) .stop) .stop) .stop)))))) (.seq (.ops [(.d 69 (.mv 0)),(.d 70 (.call 221 [69,(.const (.str [105,102]))])),(.d 68 (.mv 70))]) (.cond 68 (.seq (.ops [(.d 71 (.aB 0 5)),(.n (.store 1 71 (.const (.i 10))))]) (.seq (.ops [(.d 72 (.mv 0)),(.d 73 (.mv 1)),(.d 74 (.bin .add 73 (.const (.i 1)))),(.d 75 (.call 261 [72,74])),(.d 7 (.alloc [(.i 0),(.i 0),(.str []),(.i 0),.nl,.nl,.nl] 313)),(.n (.store 7 7 75))]) (.seq (.ops [(.d 76 (.mv 0)),(.d 77 (.call 260 [76,(.const (.str [116,104,101,110]))]))]) (.seq (.ops [(.d 78 (.mv 0)),(.d 79 (.mv 1)),(.d 80 (.bin .add 79 (.const (.i 1)))),(.d 81 (.call 261 [78,80])),(.d 8 (.alloc [(.i 0),(.i 0),(.str []),(.i 0),.nl,.nl,.nl] 313)),(.n (.store 7 8 81))]) (.seq (.ops [(.d 82 (.mv 0)),(.d 83 (.call 260 [82,(.const (.str [101,108,115,101]))]))]) (.gV [(.d 84 (.load (some 7) 7)),(.d 85 (.load (some 7) 8)),(.d 86 (.mv 0)),(.d 87 (.mv 1)),(.d 88 (.bin .add 87 (.const (.i 1))))] (.alt (.d 89 (.call 261 [86,88])) [((some 7),7),((some 7),8)] (.alt (.d 90 (.lit 7 112 [] 3 [(0,84),(1,85),(2,89)])) [] (.alt (.d 91 (.aB 5 5)) [] (.alt (.n (.store 1 91 90)) [] .done .stop) .stop) .stop) .stop))))))) (.seq (.ops [(.d 16 (.mv 0)),(.d 17 (.mv 1)),(.d 18 (.call 296 [16,17])),(.n (.store 7 4 18))]) .ret)))))))) (.seq (.ops [(.d 92 (.load (some 7) 5)),(.n (.store 7 4 92))]) .ret))))))
def Tk :aN:=(.mk 2 42 [(.cell 4 (some 7))] (.seq (.ops [(.d 4 (.alloc [(.i 0),(.i 0),(.str []),(.i 0),.nl,.nl,.nl] 313))]) (.seq (.ops [(.d 9 (.mv 0)),(.d 10 (.mv 1)),(.d 11 (.call 316 [9,10])),(.d 5 (.alloc [(.i 0),(.i 0),(.str []),(.i 0),.nl,.nl,.nl] 313)),(.n (.store 7 5 11))]) (.block 0 (.loop (.block 1 (.seq (.ops [(.d 12 (.mv 0)),(.d 13 (.call 218 [12])),(.d 14 (.fld 1 none 13)),(.d 6 (.mv 14))]) (.block 2 (.seq (.ops [(.d 17 (.mv 0)),(.d 18 (.call 221 [17,(.const (.str [40]))])),(.d 16 (.mv 18))]) (.cond 16 (.seq (.ops [(.d 19 (.mv 0)),(.d 20 (.mv 1)),(.d 21 (.bin .add 20 (.const (.i 1)))),(.d 22 (.call 261 [19,21])),(.d 7 (.alloc [(.i 0),(.i 0),(.str []),(.i 0),.nl,.nl,.nl] 313)),(.n (.store 7 7 22))]) (.seq (.ops [(.d 23 (.mv 0)),(.d 24 (.call 260 [23,(.const (.str [41]))]))]) (.ops [(.d 25 (.mv 6)),(.d 26 (.load (some 7) 5)),(.d 27 (.load (some 7) 7)),(.d 28 (.lit 7 112 [] 2 [(0,26),(1,27)])),(.d 29 (.build [(.i 0),(.i 0),(.str []),(.i 0),.nl,.nl,.nl] [(0,(1,(.const (.i 7)))),(1,(1,25)),(5,(1,28))])),(.n (.store 7 5 29))]))) (.seq (.ops [(.d 31 (.mv 0)),(.d 32 (.call 221 [31,(.const (.str [46]))])),(.d 30 (.mv 32))]) (.cond 30 (.seq (.ops [(.d 33 (.mv 0)),(.d 34 (.call 259 [33])),(.d 8 (.alloc [(.i 0),(.i 0),(.str [])] 282)),(.n (.store 3 8 34))]) (.ops [(.d 35 (.aB 1 8)),(.d 36 (.load none 35)),(.d 37 (.aB 2 8)),(.d 38 (.load none 37)),(.d 39 (.load (some 7) 5)),(.d 40 (.lit 7 112 [] 1 [(0,39)])),(.d 41 (.build [(.i 0),(.i 0),(.str []),(.i 0),.nl,.nl,.nl] [(0,(1,(.const (.i 6)))),(1,(1,36)),(2,(1,38)),(5,(1,40))])),(.n (.store 7 5 41))])) (.seq (.ops [(.d 15 (.load (some 7) 5)),(.n (.store 7 4 15))]) .ret)))))))))))))
def Tg :aN:=(.mk 2 93 [(.cell 4 (some 7))] (.seq (.ops [(.d 2 (.box 225 0)),(.d 3 (.box 4 1)),(.d 4 (.alloc [(.i 0),(.i 0),(.str []),(.i 0),.nl,.nl,.nl] 313))]) (.seq (.ops [(.d 8 (.load none 2)),(.d 9 (.call 218 [8])),(.d 5 (.alloc [(.i 0),(.i 0),(.str [])] 282)),(.n (.store 3 5 9))]) (.seq (.ops [(.d 10 (.aB 1 5)),(.d 11 (.load none 10)),(.d 12 (.build [(.i 0),(.i 0),(.str []),(.i 0),.nl,.nl,.nl] [(1,(1,11))])),(.d 6 (.alloc [(.i 0),(.i 0),(.str []),(.i 0),.nl,.nl,.nl] 313)),(.n (.store 7 6 12))]) (.seq (.seq (.ops [(.d 13 (.aB 0 5)),(.d 14 (.load none 13))]) (.block 0 (.seq (.ops [(.d 16 (.bin .eql 14 (.const (.i 3)))),(.d 15 (.mv 16))]) (.cond 15 (.seq (.ops [(.d 17 (.load none 2)),(.d 18 (.aL 17)),(.d 19 (.aB 1 18)),(.d 20 (.load none 19)),(.d 21 (.bin .add 20 (.const (.i 1)))),(.d 22 (.aL 17)),(.d 23 (.aB 1 22)),(.n (.store 1 23 21))]) (.seq (.ops [(.d 24 (.aB 0 6)),(.n (.store 1 24 (.const (.i 1))))]) (.seq (.ops [(.d 26 (.aB 2 5)),(.d 27 (.load none 26)),(.d 28 (.call 322 [27,(.const (.i 10)),(.const (.i 64))])),(.d 25 (.mv 28)),(.d 29 (.ext 25 0)),(.d 30 (.ext 25 1)),(.d 31 (.aB 3 6)),(.n (.store 1 31 29))]) (.seq (.ops [(.d 32 (.load (some 7) 6)),(.n (.store 7 4 32))]) .ret)))) (.seq (.seq (.ops [(.d 34 (.bin .eql 14 (.const (.i 4)))),(.d 33 (.mv 34))]) (.cond 33 .skip (.ops [(.d 35 (.bin .eql 14 (.const (.i 1)))),(.d 33 (.mv 35))]))) (.cond 33 (.seq (.ops [(.d 36 (.load none 2)),(.d 37 (.aL 36)),(.d 38 (.aB 1 37)),(.d 39 (.load none 38)),(.d 40 (.bin .add 39 (.const (.i 1)))),(.d 41 (.aL 36)),(.d 42 (.aB 1 41)),(.n (.store 1 42 40))]) (.seq (.gV [(.d 43 (.aB 2 5)),(.d 44 (.load none 43)),(.d 45 (.aB 0 6))] (.alt (.n (.store 1 45 (.const (.i 2)))) [(none,43)] (.alt (.d 46 (.aB 2 6)) [] (.alt (.n (.store 1 46 44)) [] .done .stop) .stop) .stop)) (.seq (.seq (.ops [(.d 47 (.aB 0 5)),(.d 48 (.load none 47)),(.d 49 (.bin .eql 48 (.const (.i 1))))]) (.cond 49 (.ops [(.d 50 (.aB 0 6)),(.n (.store 1 50 (.const (.i 4))))]) .skip)) (.seq (.ops [(.d 51 (.load (some 7) 6)),(.n (.store 7 4 51))]) .ret)))) .skip)))))) (.seq (.block 1 (.seq (.ops [(.d 53 (.load none 2)),(.d 54 (.call 221 [53,(.const (.str [116,114,117,101]))])),(.d 52 (.mv 54))]) (.cond 52 (.seq (.ops [(.d 55 (.aB 0 6)),(.n (.store 1 55 (.const (.i 3)))),(.d 56 (.aB 3 6)),(.n (.store 1 56 (.const (.i 1))))]) (.seq (.ops [(.d 57 (.load (some 7) 6)),(.n (.store 7 4 57))]) .ret)) (.seq (.ops [(.d 59 (.load none 2)),(.d 60 (.call 221 [59,(.const (.str [102,97,108,115,101]))])),(.d 58 (.mv 60))]) (.cond 58 (.seq (.ops [(.d 61 (.aB 0 6)),(.n (.store 1 61 (.const (.i 3))))]) (.seq (.ops [(.d 62 (.load (some 7) 6)),(.n (.store 7 4 62))]) .ret)) (.seq (.ops [(.d 64 (.load none 2)),(.d 65 (.call 221 [64,(.const (.str [123]))])),(.d 63 (.mv 65))]) (.cond 63 (.seq (.ops [(.d 66 (.aB 0 6)),(.n (.store 1 66 (.const (.i 5))))]) (.seq (.ops [(.d 67 (.load none 2)),(.d 68 (.mkF (.func 323) [] [2,3,6])),(.d 69 (.call 306 [67,(.const (.str [61])),68]))]) (.seq (.ops [(.d 70 (.load (some 7) 6)),(.n (.store 7 4 70))]) .ret))) .skip))))))) (.seq (.ops [(.d 71 (.load none 2)),(.d 72 (.call 260 [71,(.const (.str [40]))]))]) (.seq (.ops [(.d 73 (.load none 2)),(.d 74 (.load none 3)),(.d 75 (.bin .add 74 (.const (.i 1)))),(.d 76 (.call 261 [73,75])),(.d 7 (.alloc [(.i 0),(.i 0),(.str []),(.i 0),.nl,.nl,.nl] 313)),(.n (.store 7 7 76))]) (.seq (.seq (.ops [(.d 77 (.load none 2)),(.d 78 (.call 221 [77,(.const (.str [58]))]))]) (.cond 78 (.seq (.gV [(.d 79 (.load (some 7) 7)),(.d 80 (.lit 7 112 [] 1 [(0,79)])),(.d 81 (.load none 2)),(.d 82 (.load none 3)),(.d 83 (.bin .add 82 (.const (.i 1)))),(.d 86 (.aB 0 6))] (.alt (.d 84 (.call 184 [81,83])) [((some 7),7)] (.alt (.d 85 (.lit 4 72 [] 1 [(0,84)])) [] (.alt (.n (.store 1 86 (.const (.i 11)))) [((some 7),7)] (.alt (.d 87 (.aB 5 6)) [] (.alt (.n (.store 1 87 80)) [] (.alt (.d 88 (.aB 6 6)) [] (.alt (.n (.store 1 88 85)) [] .done .stop) .stop) .stop) .stop) .stop) (.alt (.n (.store 1 86 (.const (.i 11)))) [((some 7),7)] (.alt (.d 85 (.lit 4 72 [] 1 [(0,84)])) [] (.alt (.d 87 (.aB 5 6)) [] (.alt (.n (.store 1 87 80)) [] (.alt (.d 88 (.aB 6 6)) [] (.alt (.n (.store 1 88 85)) [] .done .stop) .stop) .stop) .stop) (.alt (.d 87 (.aB 5 6)) [] (.alt (.d 85 (.lit 4 72 [] 1 [(0,84)])) [] (.alt (.n (.store 1 87 80)) [] (.alt (.d 88 (.aB 6 6)) [] (.alt (.n (.store 1 88 85)) [] .done .stop) .stop) .stop) (.alt (.n (.store 1 87 80)) [] (.alt (.d 85 (.lit 4 72 [] 1 [(0,84)])) [] (.alt (.d 88 (.aB 6 6)) [] (.alt (.n (.store 1 88 85)) [] .done .stop) .stop) .stop) .stop)) .stop)) .stop)) .stop)) (.ops [(.d 89 (.load (some 7) 6)),(.n (.store 7 7 89))])) .skip)) (.seq (.ops [(.d 90 (.load none 2)),(.d 91 (.call 260 [90,(.const (.str [41]))]))]) (.seq (.ops [(.d 92 (.load (some 7) 7)),(.n (.store 7 4 92))]) .ret)))))))))))
def Tf :aN:=(.mk 4 24 [] (.seq (.ops [(.d 6 (.load none 1)),(.d 7 (.load none 2)),(.d 8 (.bin .add 7 (.const (.i 1)))),(.d 9 (.call 261 [6,8])),(.d 5 (.alloc [(.i 0),(.i 0),(.str []),(.i 0),.nl,.nl,.nl] 313)),(.n (.store 7 5 9))]) (.seq (.ops [(.d 10 (.mv 0)),(.d 11 (.bin .neq 10 (.const (.str []))))]) (.cond 11 (.gV [(.d 12 (.aB 4 3)),(.d 13 (.load none 12)),(.d 14 (.mv 0)),(.d 15 (.lit 1 16 [] 1 [(0,14)])),(.d 17 (.aB 5 3)),(.d 18 (.load none 17)),(.d 19 (.load (some 7) 5)),(.d 20 (.lit 7 112 [] 1 [(0,19)]))] (.alt (.d 16 (.append 1 16 10 13 15)) [] (.alt (.d 21 (.append 7 112 313 18 20)) [] (.alt (.d 22 (.aB 4 3)) [] (.alt (.n (.store 1 22 16)) [] (.alt (.d 23 (.aB 5 3)) [] (.alt (.n (.store 1 23 21)) [] .done .stop) .stop) .stop) .stop) (.alt (.d 22 (.aB 4 3)) [] (.alt (.d 21 (.append 7 112 313 18 20)) [] (.alt (.n (.store 1 22 16)) [] (.alt (.d 23 (.aB 5 3)) [] (.alt (.n (.store 1 23 21)) [] .done .stop) .stop) .stop) .stop) .stop)) .stop)) .skip))))
def TM :aN:=(.mk 1 60 [(.cell 2 (some 5))] (.seq (.ops [(.d 2 (.alloc [(.i 0),(.i 0),(.str []),.nl,.nl] 242))]) (.seq (.ops [(.d 3 (.alloc [(.i 0),(.i 0),(.str []),.nl,.nl] 242))]) (.seq (.block 0 (.seq (.ops [(.d 8 (.mv 0)),(.d 9 (.call 221 [8,(.const (.str [117,115,101]))])),(.d 7 (.mv 9))]) (.cond 7 (.ops [(.d 10 (.aB 0 3)),(.n (.store 1 10 (.const (.i 1))))]) (.seq (.ops [(.d 12 (.mv 0)),(.d 13 (.call 221 [12,(.const (.str [116,121,112,101]))])),(.d 11 (.mv 13))]) (.cond 11 (.ops [(.d 14 (.aB 0 3)),(.n (.store 1 14 (.const (.i 2))))]) (.seq (.ops [(.d 16 (.mv 0)),(.d 17 (.call 221 [16,(.const (.str [108,101,116]))])),(.d 15 (.mv 17))]) (.cond 15 (.ops [(.d 18 (.aB 0 3)),(.n (.store 1 18 (.const (.i 3))))]) (.ops [(.d 5 (.mv 0)),(.d 6 (.call 248 [5,(.const (.i 2))]))])))))))) (.seq (.ops [(.d 19 (.mv 0)),(.d 20 (.call 259 [19])),(.d 4 (.alloc [(.i 0),(.i 0),(.str [])] 282)),(.n (.store 3 4 20))]) (.seq (.gV [(.d 21 (.aB 1 4)),(.d 22 (.load none 21)),(.d 23 (.aB 2 4)),(.d 24 (.load none 23)),(.d 25 (.aB 1 3))] (.alt (.n (.store 1 25 22)) [(none,23)] (.alt (.d 26 (.aB 2 3)) [] (.alt (.n (.store 1 26 24)) [] .done .stop) .stop) .stop)) (.seq (.seq (.ops [(.d 27 (.aB 0 3)),(.d 28 (.load none 27)),(.d 29 (.bin .eql 28 (.const (.i 3)))),(.d 30 (.mv 29)),(.g 31 (.mv 0) 30 true),(.g 32 (.call 221 [31,(.const (.str [58]))]) 30 true),(.d 33 (.pick 30 32 (.const (.bool false))))]) (.cond 33 (.ops [(.d 34 (.mv 0)),(.d 35 (.call 184 [34,(.const (.i 1))])),(.d 36 (.lit 4 72 [] 1 [(0,35)])),(.d 37 (.aB 3 3)),(.n (.store 1 37 36))]) .skip)) (.seq (.seq (.ops [(.d 38 (.aB 0 3)),(.d 39 (.load none 38)),(.d 40 (.bin .neq 39 (.const (.i 1))))]) (.cond 40 (.ops [(.d 41 (.mv 0)),(.d 42 (.call 260 [41,(.const (.str [61]))]))]) .skip)) (.seq (.seq (.ops [(.d 43 (.aB 0 3)),(.d 44 (.load none 43)),(.d 45 (.bin .eql 44 (.const (.i 2))))]) (.cond 45 (.ops [(.d 46 (.mv 0)),(.d 47 (.call 184 [46,(.const (.i 1))])),(.d 48 (.lit 4 72 [] 1 [(0,47)])),(.d 49 (.aB 3 3)),(.n (.store 1 49 48))]) .skip)) (.seq (.seq (.ops [(.d 50 (.aB 0 3)),(.d 51 (.load none 50)),(.d 52 (.bin .eql 51 (.const (.i 3))))]) (.cond 52 (.ops [(.d 53 (.mv 0)),(.d 54 (.call 261 [53,(.const (.i 1))])),(.d 55 (.lit 7 112 [] 1 [(0,54)])),(.d 56 (.aB 4 3)),(.n (.store 1 56 55))]) .skip)) (.seq (.ops [(.d 57 (.mv 0)),(.d 58 (.call 260 [57,(.const (.str [59]))]))]) (.seq (.ops [(.d 59 (.load (some 5) 3)),(.n (.store 5 2 59))]) .ret))))))))))))
def TL :aN:=(.mk 1 18 [] (.block 0 (.loop (.seq (.seq (.ops [(.d 2 (.mv 0)),(.d 3 (.call 218 [2])),(.d 4 (.fld 0 none 3)),(.d 5 (.bin .neq 4 (.const (.i 6)))),(.d 6 (.mv 5)),(.g 7 (.mv 0) 6 true),(.g 8 (.call 221 [7,(.const (.str [59]))]) 6 true),(.g 9 (.un .not 8) 6 true),(.d 10 (.pick 6 9 (.const (.bool false))))]) (.cond 10 .skip (.exit 0))) (.block 1 (.ops [(.d 11 (.mv 0)),(.d 12 (.aL 11)),(.d 13 (.aB 1 12)),(.d 14 (.load none 13)),(.d 15 (.bin .add 14 (.const (.i 1)))),(.d 16 (.aL 11)),(.d 17 (.aB 1 16)),(.n (.store 1 17 15))]))))))
def Ud :aN:=(.mk 1 35 [2,3] (.seq (.ops [(.d 2 (.mv (.const .nl))),(.d 3 (.mv (.const .nl)))]) (.seq (.ops [(.d 10 (.mv 0)),(.d 11 (.call 215 [10])),(.d 9 (.mv 11)),(.d 12 (.ext 9 0)),(.d 13 (.ext 9 1)),(.d 4 (.mv 12)),(.d 5 (.mv 13))]) (.seq (.ops [(.d 14 (.mv 4)),(.d 15 (.mv 5)),(.d 16 (.build [.nl,(.i 0),.nl] [(0,(1,14)),(2,(1,15))])),(.d 17 (.box 280 16)),(.d 6 (.alloc [.fA] 225)),(.n (.store 1 6 17))]) (.seq (.ops [(.d 7 (.mv (.const .nl)))]) (.seq (.block 0 (.loop (.seq (.seq (.ops [(.d 18 (.load none 6)),(.d 19 (.call 218 [18])),(.d 20 (.fld 0 none 19)),(.d 21 (.bin .neq 20 (.const (.i 6))))]) (.cond 21 .skip (.exit 0))) (.block 1 (.seq (.ops [(.d 8 (.alloc [(.i 0),(.i 0),(.str []),.nl,.nl] 242))]) (.seq (.ops [(.d 22 (.mkF (.func 227) [] [6,8])),(.d 23 (.call 216 [22]))]) (.cond 23 (.ops [(.d 24 (.mv 7)),(.d 25 (.load (some 5) 8)),(.d 26 (.lit 5 80 [] 1 [(0,25)])),(.d 27 (.append 5 80 242 24 26)),(.d 7 (.mv 27))]) (.ops [(.d 28 (.load none 6)),(.d 29 (.call 229 [28]))])))))))) (.seq (.draw [(.d 30 (.mv 7)),(.d 31 (.load none 6)),(.d 32 (.aL 31)),(.d 33 (.aB 2 32)),(.d 34 (.load none 33)),(.d 2 (.mv 30)),(.d 3 (.mv 34))] []) .ret)))))))
def TN :aN:=(.mk 2 4 [] (.ops [(.d 2 (.load none 0)),(.d 3 (.call 228 [2])),(.n (.store 5 1 3))]))
end Go.Ag
/- Package parse: expressions: steps of the parser, told for use; a record's fields. -/
namespace Go.Ag
open Go
variable {T : Tab} {L : Lnk}
def DW (n d:Nat) (s:RS):EA×RS:=lX n d (fE n d s).1 (fE n d s).2
structure PEx (T:Tab) (n:Nat):Prop where
 expr:∀(d:Nat) (s:RS),s.ok→s.bad=false→d≤65→6*s.rem+8≤n→PC T.L 261 [.int .i64 d] s (bY n d s).1.av (bY n d s).2
 call:∀(d:Nat) (s:RS),s.ok→s.bad=false→d≤64→6*s.rem+7≤n→PC T.L 296 [.int .i64 d] s (DW n d s).1.av (DW n d s).2
 basic:∀(d:Nat) (s:RS),s.ok→s.bad=false→d≤64→6*s.rem+7≤n→PC T.L 316 [.int .i64 d] s (fE n d s).1.av (fE n d s).2
structure UK (L:Lnk):Prop where
 num:∀s:Bytes,yF s→Pure L 322 [.str s,.int .i64 10,.int .i64 64] (.tup [.int .i64 (sV s),.eP])
structure xX (T:Tab):Prop extends F4 T where
 Wh:T.has 261 Tz
 VW:T.has 296 Tk
 VQ:T.has 316 Tg
 VP:T.has 323 Tf
 num:UK T.L
theorem aR.kF {s' s3:RS} {y:au} {J H':Heap} (h:s'=s3) (hs:s3.bad=true) (hH:H'=aV s3 ++J):aR L s' y (.pan gup) H':=by
 subst h;exact aR.pan hs hH
section steps
variable {s : RS} (hs : s.ok) (hb : s.bad = false) {H : Heap} {K KP : au → Heap → Prop} (J : Heap) (hH : H = aV s ++ J)
include hs hb hH
theorem dZ.qD (F:dZ T) (w:Bytes) (hn:isR s w=false→K (.bool false) (aV s ++J))
  (hy:∀s',isR s w=true→aD s w=s'→s'.ok→s'.bad=false→s'.rem+1=s.rem→K (.bool true) (aV s' ++J)):aC T.L 221 [.ptr 1 0,.str w] H (dJ K KP):=
 F.take hs hb w J hH hn fun h=>hy _ h rfl (hs.of (aM hs w)) (by rw[jI h];exact hb) (eO hs h)
theorem dZ.oJ (F:dZ T) (w:Bytes) (hk:∀s',aD s w=s'→s'.ok→s'.bad=false→s'.rem+1=s.rem→K (.tup []) (aV s' ++J))
  (hp:∀s',aD s w=s'→s'.bad=true→KP gup (aV s' ++J)):aC T.L 260 [.ptr 1 0,.str w] H (dJ K KP):=
 F.want hs hb w J hH (fun h=>hk _ rfl (hs.of (aM hs w)) h (eO hs (jc h).2.1)) fun h=>hp _ rfl h
theorem dZ.E9 (F:dZ T) (hk:∀k a x s',aK s=(⟨k,a,x⟩,s')→s'.ok→s'.bad=false→s'.rem≤s.rem→K (dB.av ⟨k,a,x⟩) (aV s' ++J))
  (hp:∀t s',aK s=(t,s')→s'.bad=true→KP gup (aV s' ++J)):aC T.L 259 [.ptr 1 0] H (dJ K KP):=
 F.name hs hb J hH (fun h=>hk _ _ _ _ rfl (hs.of (bT hs)) h (bT hs).rem) fun h=>hp _ _ rfl h
theorem F4.UY (F:F4 T) (n d:Nat) (hd:d≤65) (hf:6*s.rem+6≤n) (hk:∀k nm ns l s',bJ n d s=(.mk k nm ns l,s')→s'.ok→s'.bad=false→s'.rem≤s.rem→K (TA.mk k nm ns l).av (aV s' ++J))
  (hp:∀t s',bJ n d s=(t,s')→s'.bad=true→KP gup (aV s' ++J)):aC T.L 184 [.ptr 1 0,.int .i64 d] H (dJ K KP):=by
 have h:=(Nq F n).typ d s hs hb hd hf;have hle:=(bL n).1 d s hs;generalize bJ n d s=q at h hle hk hp;obtain⟨⟨k,nm,ns,l⟩,s'⟩:=q;exact h.to (dF (.int _ _)) (aT _ _) J hH (fun h=>hk _ _ _ _ _ rfl (hs.of hle) h hle.rem) fun h=>hp _ _ rfl h
theorem PEx.wV {n:Nat} (F:PEx T n) (d:Nat) (hd:d≤65) (hf:6*s.rem+8≤n) (hk:∀k p nm v ns l ts s',bY n d s=(.mk k p nm v ns l ts,s')→s'.ok→s'.bad=false→s'.rem≤s.rem→K (EA.mk k p nm v ns l ts).av (aV s' ++J))
  (hp:∀t s',bY n d s=(t,s')→s'.bad=true→KP gup (aV s' ++J)):aC T.L 261 [.ptr 1 0,.int .i64 d] H (dJ K KP):=by
 have h:=F.expr d s hs hb hd hf;have hle:=(gq n).expr d s hs;generalize bY n d s=q at h hle hk hp;obtain⟨⟨k,p,nm,v,ns,l,ts⟩,s'⟩:=q;exact h.to (dF (.int _ _)) (iN _ _) J hH (fun h=>hk _ _ _ _ _ _ _ _ rfl (hs.of hle) h hle.rem) fun h=>hp _ _ rfl h
end steps
def kY (x:List (Bytes×EA)):List au:=aJ (x.map (·.1))
def kX (x:List (Bytes×EA)):List au:=EA.avs (x.map (·.2))
theorem LZ (x:List (Bytes×EA)):(kY x).length=x.length:=by unfold kY;rw[cK,List.length_map]
theorem LQ (x:List (Bytes×EA)):(kX x).length=x.length:=by unfold kX;rw[NW,List.length_map]
def Qf (d:Nat) (t:dB) (x:List (Bytes×EA)):Nat→aS
 |0=>aZ (kY x).length 10
 |1=>aZ (kX x).length 313
 |2=>.dead
 |3=>.cells [.ptr 1 0] 225
 |4=>.cells [.int .i64 d] 4
 |5=>.cells [.int .i64 0,.int .i64 0,.str [],.int .i64 0,.lst [] .nil,.lst [] .nil,.lst [] .nil] 313
 |6=>.cells [.int .i64 t.kind,.int .i64 t.at_,.str t.text] 282
 |_=>.cells [.int .i64 5,.int .i64 t.at_,.str [],.int .i64 0,.lst (kY x) (bA (kY x).length 2),.lst (kX x) (bA (kX x).length 3),.lst [] .nil] 313
theorem yT (d:Nat) (t:dB) (x:List (Bytes×EA)):∀i,i<8→bF 10 (Qf d t x i)
 |0,_=>bB _ _ _
 |1,_=>bB _ _ _
 |2,_=>trivial
 |3,_=>dW ⟨.ptr _ _ (by decide:1<10),trivial⟩
 |4,_=>dW ⟨.int _ _,trivial⟩
 |5,_=>dW ⟨.int _ _,.int _ _,.str _,.int _ _,.lst _ _ trivial fP,.lst _ _ trivial fP,.lst _ _ trivial fP,trivial⟩
 |6,_=>dW ⟨.int _ _,.int _ _,.str _,trivial⟩
 |7,_=>dW ⟨.int _ _,.int _ _,.str _,.int _ _,dS _ _ _ (dI (by decide:2<10)),.lst _ _ (dI (by decide:3<10)) (vP _ _),.lst _ _ trivial fP,trivial⟩
 |n+8,h=>by omega
theorem Ht (F:xX T) {n:Nat} (ih:PEx T n) (d:Nat) (hd:d≤64) (t:dB) (nm:Bytes) (x:List (Bytes×EA)) (s:RS) (hs:s.ok) (hb:s.bad=false) (hf:6*s.rem+8≤n)
  (hl:x.length+s.rem+1≤2^34):
  aC T.L 323 [.str nm,.ptr 5 0,.ptr 6 0,.ptr 9 0] (aV s ++kT (Qf d t) x) fun r H'=>∃J,wX T.L r (wJ (eSt d n nm x s).2.bad (.tup []))∧H'=aV (eSt d n nm x s).2 ++(kT (Qf d t) (eSt d n nm x s).1 ++J):=by
 refine aG F.VP (by simp[Tf]) ?_;unfold eSt;conv=>whnf
 rw[addN (by omega)];refine ih.wV hs hb _ rfl (d+1) (by omega) hf (fun k p en v ns l ts s' hq hs' hb' hr=>?_) fun e s' hq hb'=>?_
 ·rw[hq]
  conv=>whnf
  by_cases hne:nm=[]
  ·subst hne
   rw[if_pos (.inl rfl)];conv=>whnf
   exact⟨_,by rw[hb'];exact Weak.refl _,rfl⟩
  ·rw[if_neg (fun h=>h.elim hne fun h=>absurd (hb'.symm.trans h) (by decide))]
   rw[show(nm==([]:Bytes))=false from by simpa using hne];have e1:kY (x ++[(nm,.mk k p en v ns l ts)])=kY x ++[.str nm]:=by simp[kY,aJ]
   have e2:kX (x ++[(nm,.mk k p en v ns l ts)])=kX x ++[(EA.mk k p en v ns l ts).av]:=by unfold kX;rw[List.map_append,Dx];rfl
   have n1:=LZ x;have n2:=LQ x;have sX:dA 1 (kY x):=iT _;have sY:dA 7 (kX x):=zA _
   have hH:∀J:Heap,kT (Qf d t) (x ++[(nm,.mk k p en v ns l ts)]) ++J=[aZ (kY x ++[au.str nm]).length 10,aZ (kX x ++[(EA.mk k p en v ns l ts).av]).length 313,.dead,.cells [.ptr 1 0] 225,.cells [.int .i64 d] 4,
     .cells [.int .i64 0,.int .i64 0,.str [],.int .i64 0,.lst [] .nil,.lst [] .nil,.lst [] .nil] 313,.cells [.int .i64 t.kind,.int .i64 t.at_,.str t.text] 282,
     .cells [.int .i64 5,.int .i64 t.at_,.str [],.int .i64 0,.lst (kY x ++[au.str nm]) (bA (kY x ++[au.str nm]).length 2),.lst (kX x ++[(EA.mk k p en v ns l ts).av]) (bA (kX x ++[(EA.mk k p en v ns l ts).av]).length 3),.lst [] .nil] 313] ++J:=fun J=>by
    rw[←e1,←e2];rfl
   have hH0:kT (Qf d t) x=[aZ (kY x).length 10,aZ (kX x).length 313,.dead,.cells [.ptr 1 0] 225,.cells [.int .i64 d] 4,
     .cells [.int .i64 0,.int .i64 0,.str [],.int .i64 0,.lst [] .nil,.lst [] .nil,.lst [] .nil] 313,.cells [.int .i64 t.kind,.int .i64 t.at_,.str t.text] 282,
     .cells [.int .i64 5,.int .i64 t.at_,.str [],.int .i64 0,.lst (kY x) (bA (kY x).length 2),.lst (kX x) (bA (kX x).length 3),.lst [] .nil] 313]:=rfl
   rw[hH0];simp only[hH];generalize kY x=XS at n1 sX⊢;generalize kX x=YS at n2 sY⊢;clear hH hH0 e1 e2
   have a1:∀{H:Heap} {K:au→Heap→Prop} {tk:Tok},H[2]?=some (aZ XS.length 10)→K (.lst (XS ++[.str nm]) (bA (XS ++[au.str nm]).length 2)) (H.set 2 (aZ (XS ++[au.str nm]).length 10))→mh 1 16 10 (.lst XS (bA XS.length 2)) (.lst [.str nm] tk) H K:=
    fun h1 h2=>dx sX (bN rfl) (by simp[n1];omega) (by simp[n1];omega) (by simp) h1 h2
   have a2:∀{H:Heap} {K:au→Heap→Prop} {tk:Tok},H[3]?=some (aZ YS.length 313)→K (.lst (YS ++[(EA.mk k p en v ns l ts).av]) (bA (YS ++[(EA.mk k p en v ns l ts).av]).length 3)) (H.set 3 (aZ (YS ++[(EA.mk k p en v ns l ts).av]).length 313))→mh 7 112 313 (.lst YS (bA YS.length 3)) (.lst [(EA.mk k p en v ns l ts).av] tk) H K:=
    fun h1 h2=>dx sY (bN rfl) (by simp[n2];omega) (by simp[n2];omega) (by simp) h1 h2
   conv=>whnf
   refine a1 rfl ?_;conv=>whnf
   refine⟨?_,?_⟩
   all_goals
    conv=>whnf
    refine a2 rfl ?_;conv=>whnf
    exact⟨_,by rw[hb'];exact Weak.refl _,rfl⟩
 ·rw[hq]
  conv=>whnf
  rw[if_pos (.inr hb')];exact⟨_,by rw[hb'];exact Weak.refl _,rfl⟩
def NS :List au:=[.ptr 5 0,.ptr 6 0,.ptr 9 0]
theorem SE (F:xX T) (N:Nat) (ih:∀m,m≤N→PEx T m) (d:Nat) (hd:d≤64) (t:dB):vF T (Qf d t) (eSt d) (fun x seen=>x.map (·.1)=seen) 323 NS N where
 Fb:=fun x hx=>by
  simp only[NS,List.mem_cons,List.not_mem_nil,or_false]at hx;rcases hx with rfl|rfl|rfl<;>exact .ptr _ _ (by decide)
 loo:=yT d t
 le:=fun n nm x s hs=>(gq n).expr (d+1) s hs
 none:=fun n x s seen h=>by rw[eSt,if_pos (.inl rfl)];exact h
 some:=fun n nm x s seen h h1 h2 h3=>by
  simp only[eSt]at h3⊢;rw[if_neg (fun e=>e.elim h1 fun e=>by rw[h3]at e;cases e),List.map_append,h];rfl
 item:=fun n nm x s seen h1 h2 h3 h4 h5 h6 h7 h8=>by
  subst h5;refine iX.of 0 rfl (mK bG) (kN (yT d t) _ _) ((Ht F (ih n h1) d hd t nm x s h2 h3 h4 (by rw[List.length_map]at h6;exact h6)).mono fun r H' ⟨J,e1,e2⟩=>⟨_,J,e1,by rw[e2,List.append_assoc],rfl,fun i o o' h1 h2=>by rw[h1]at h2;cases h2;exact bR.refl o⟩)
end Go.Ag
/- Package parse: basic. -/
namespace Go.Ag
open Go
variable {T : Tab} {L : Lnk}
set_option maxHeartbeats 2000000 in
theorem Jf (F:xX T) (n:Nat) (ih:∀m,m≤n→PEx T m) (d:Nat) (s:RS) (hs:s.ok) (hb:s.bad=false) (hd:d≤64) (hf:6*s.rem+7≤n+1):PC T.L 316 [.int .i64 d] s (fE (n+1) d s).1.av (fE (n+1) d s).2:=by
 refine PC.of 3 (iN _ _) (aG F.VQ (by simp[Tg]) ?_);obtain⟨R,hR⟩:∃R,fE (n+1) d s=R:=⟨_,rfl⟩;rw[hR];rw[fE,if_neg (by simp[hb])]at hR;have F':=F.todZ;conv=>whnf
 refine F'.here hs hb _ rfl ?_;conv=>whnf
 cases hk3:(s.tok.kind==3)
 ·conv=>whnf
  cases hk4:(s.tok.kind==4)
  case' true=>
   have h4:s.tok.kind=4:=by simpa using hk4
   rw[if_neg (by rw[h4];decide),if_neg (by rw[h4];decide),if_pos h4]at hR;have hk1:(s.tok.kind==1)=false:=by rw[h4];rfl
   conv=>whnf
   rw[addN hs.i];refine⟨⟨rfl,trivial⟩,?_⟩;conv=>whnf
   rw[hk1];conv=>whnf
   subst hR;exact aR.ret hb (eU 2 s.tok.at_ s.tok.text 0 [] [] [] _ _ _) rfl
  ·have h4:¬s.tok.kind=4:=by simpa using hk4
   have h3:¬s.tok.kind=3:=by simpa using hk3
   conv=>whnf
   cases hk1:(s.tok.kind==1)
   case' true=>
    have h1:s.tok.kind=1:=by simpa using hk1
    rw[if_pos h1]at hR;conv=>whnf
    rw[addN hs.i];refine⟨⟨rfl,trivial⟩,?_⟩;conv=>whnf
    rw[hk1];conv=>whnf
    subst hR;exact aR.ret hb (eU 4 s.tok.at_ s.tok.text 0 [] [] [] _ _ _) rfl
   ·have h1:¬s.tok.kind=1:=by simpa using hk1
    rw[if_neg h1,if_neg h3,if_neg h4]at hR;conv=>whnf
    refine F'.qD hs hb _ rfl Fh (fun h5=>?_) fun s1 h5 hq hs1 hb1 hr=>?_
    ·rw[if_neg (by simp[h5])]at hR
     conv=>whnf
     refine F'.qD hs hb _ rfl zO (fun h6=>?_) fun s1 h6 hq hs1 hb1 hr=>?_
     ·rw[if_neg (by simp[h6])]at hR
      conv=>whnf
      refine F'.qD hs hb _ rfl kLb (fun h7=>?_) fun s1 h7 hq hs1 hb1 hr=>?_
      ·rw[if_neg (by simp[h7])]at hR
       conv=>whnf
       refine F'.oJ hs hb _ rfl kLp (fun s1 hq hs1 hb1 hr=>?_) fun s1 hq hb1=>?_
       ·rw[hq,if_neg (by simp[hb1])]at hR
        conv=>whnf
        rw[addN (by omega)];refine(ih n (Nat.le_refl _)).wV hs1 hb1 _ rfl (d+1) (by omega) (by omega) (fun k p nm v ns l ts s2 hq hs2 hb2 hr2=>?_) fun e s2 hq hb2=>?_
        ·rw[hq]at hR
         obtain⟨m,rfl⟩:∃m,n=m+1:=⟨n-1,by omega⟩;rw[asR]at hR;conv=>whnf
         refine F'.qD hs2 hb2 _ rfl aQ (fun h8=>?_) fun s3 h8 hq hs3 hb3 hr3=>?_
         ·rw[if_neg (by simp[h8])]at hR
          conv=>whnf
          refine F'.oJ hs2 hb2 _ rfl kRp (fun s3 hq hs3 hb3 hr3=>?_) fun s3 hq hb3=>?_
          ·conv=>whnf
           rw[hq]at hR;subst hR;exact aR.ret hb3 (Weak.refl _) rfl
          ·conv=>whnf
           rw[hq]at hR;subst hR;exact aR.kF rfl hb3 rfl
         ·rw[if_pos h8,hq]at hR
          conv=>whnf
          rw[addN (by omega)];refine F.toF4.UY hs3 hb3 _ rfl m (d+1) (by omega) (by omega) (fun k' nm' ns' l' s4 hq hs4 hb4 hr4=>?_) fun t s4 hq hb4=>?_
          ·rw[hq]at hR
           have fin:∀{H':Heap} {J:Heap} {K KP:au→Heap→Prop},H'=aV s4 ++J→(∀s5,R=(.mk 11 s.tok.at_ [] 0 [] [.mk k p nm v ns l ts] [.mk k' nm' ns' l'],s5)→s5.bad=false→K (.tup []) (aV s5 ++J))→(R.2.bad=true→KP gup (aV R.2 ++J))→aC T.L 260 [.ptr 1 0,.str kRp] H' (dJ K KP):=fun hH hk hp=>by
            refine F'.oJ hs4 hb4 _ hH kRp (fun s5 hq hs5 hb5 hr5=>?_) fun s5 hq hb5=>?_
            ·rw[hq]at hR;exact hk _ hR.symm hb5
            ·rw[hq]at hR
             have:R.2=s5:=by rw[←hR]
             rw[←this]at hb5⊢;exact hp hb5
           clear hR;conv=>whnf
           refine⟨⟨rfl,trivial⟩,?_⟩;conv=>whnf
           refine⟨?_,?_⟩
           all_goals conv=>whnf
           all_goals
            refine⟨⟨rfl,trivial⟩,?_⟩;conv=>whnf
           case' refine_2=>
            refine⟨?_,?_⟩
            all_goals conv=>whnf
           all_goals try refine⟨?_,?_⟩
           all_goals try conv=>whnf
           all_goals
            refine fin rfl (fun s5 hR hb5=>?_) fun hb5=>?_
            ·conv=>whnf
             subst hR;exact aR.ret hb5 (eU 11 s.tok.at_ [] 0 [] [.mk k p nm v ns l ts] [.mk k' nm' ns' l'] _ _ _) rfl
            ·conv=>whnf
             exact aR.pan hb5 rfl
          ·conv=>whnf
           rw[hq]at hR;dsimp only at hR;rw[bI hb4]at hR;subst hR;exact aR.kF rfl hb4 rfl
        ·conv=>whnf
         rw[hq]at hR;exact aR.kF (by rw[←hR,(dK n).as_ _ _ _ hb2]) hb2 rfl
       ·conv=>whnf
        rw[hq,if_pos hb1]at hR;subst hR;exact aR.kF rfl hb1 rfl
      ·rw[if_pos h7,hq]at hR
       conv=>whnf
       have hrel:=vo d s.tok.at_ n [] s1 hs1 (by omega);have hfs:=AR F' F.Di F.h28 (SE F n ih d hd s.tok) kEq n [] s1 (Nat.le_refl _) hs1 hb1 (by omega) rfl;rw[show([]:List (Bytes×EA)).map (·.1)=[]from rfl,show([]:List (Bytes×EA)).map (·.2)=[]from rfl,hR]at hrel;generalize dL kEq (eSt d) n [] [] s1=G at hrel hfs;obtain⟨x',s'⟩:=G;dsimp only at hrel hfs;refine hfs.to rfl (fun z hz=>?_) (kN (yT d s.tok) _ _) (mK bG) (kN (yT d s.tok) _ _) [] (by rfl) ?_
       ·simp only[List.mem_cons,List.not_mem_nil,or_false]at hz
        rcases hz with rfl|rfl|rfl
        ·exact .ptr _ _ (show 1<10 by decide)
        ·exact .str _
        ·exact .fn _ _ _ fP (SE F n ih d hd s.tok).Fb
       obtain⟨e1,hrel⟩:=hrel;rw[e1];cases hb':s'.bad
       ·rw[hrel hb']
        conv=>whnf
        exact aR.ret hb' (eU 5 s.tok.at_ [] 0 (x'.map (·.1)) (x'.map (·.2)) [] _ _ _) rfl
       ·conv=>whnf
        exact aR.pan hb' rfl
     ·rw[if_pos h6,hq]at hR
      conv=>whnf
      subst hR;exact aR.ret hb1 (eU 3 s.tok.at_ [] 0 [] [] [] _ _ _) rfl
    ·rw[if_pos h5,hq]at hR
     conv=>whnf
     subst hR;exact aR.ret hb1 (eU 3 s.tok.at_ [] 1 [] [] [] _ _ _) rfl
 ·have h3:s.tok.kind=3:=by simpa using hk3
  rw[if_neg (by rw[h3];decide),if_pos h3]at hR;have hn:=hs.num _ (List.mem_of_getElem? (uo hs)) h3;conv=>whnf
  rw[addN hs.i];refine(F.num.num s.tok.text hn).to ?_;conv=>whnf
  subst hR;exact aR.ret hb (eU 1 s.tok.at_ [] (sV s.tok.text) [] [] [] _ _ _) rfl
end Go.Ag
/- Package parse: call, expr; all of expressions. -/
namespace Go.Ag
open Go
variable {T : Tab} {L : Lnk}
def F7 :aS:=.cells [.int .i64 0,.int .i64 0,.str [],.int .i64 0,.lst [] .nil,.lst [] .nil,.lst [] .nil] 313
def Hw (k p:Int) (nm:Bytes) (v:Int) (ns:List Bytes) (l:List EA) (ts:List TA) (t1 t2 t3:Tok):aS:=
 .cells [.int .i64 k,.int .i64 p,.str nm,.int .i64 v,.lst (aJ ns) t1,.lst (EA.avs l) t2,.lst (TA.avs ts) t3] 313
theorem LM (F:xX T) (n:Nat) (ih:∀m,m<n→PEx T m) (VL:∀(d:Nat) (s:RS),s.ok→s.bad=false→d≤64→6*s.rem+7≤n→PC T.L 316 [.int .i64 d] s (fE n d s).1.av (fE n d s).2)
  (d:Nat) (s:RS) (hs:s.ok) (hb:s.bad=false) (hd:d≤64) (hf:6*s.rem+7≤n):PC T.L 296 [.int .i64 d] s (DW n d s).1.av (DW n d s).2:=by
 refine PC.of 0 (iN _ _) (aG F.VW (by simp[Tk]) ?_);obtain⟨R,hR⟩:∃R,DW n d s=R:=⟨_,rfl⟩;rw[hR];unfold DW at hR;have F':=F.todZ;have hq:=VL d s hs hb hd hf;have hle:=(gq n).basic d s hs;have hre:=hle.rem;obtain⟨q,hqe⟩:∃q,fE n d s=q:=⟨_,rfl⟩;rw[hqe]at hq hle hR hre;obtain⟨⟨a1,a2,a3,a4,a5,a6,a7⟩,s1⟩:=q;dsimp only at hq hle hR hre;have hs1:=hs.of hle;conv=>whnf
 refine hq.to (dF (.int _ _)) (iN _ _) _ rfl (fun hb1=>?_) fun hb1=>?_
 ·conv=>whnf
  intro I hI hG
  have key:∀(mm:Nat) (s':RS) (k p:Int) (nm:Bytes) (v:Int) (ns:List Bytes) (l:List EA) (ts:List TA) (e:Env),mm≤n→s'.ok→s'.bad=false→6*s'.rem+7≤mm→R=lX mm d (.mk k p nm v ns l ts) s'→
    I (fZ e [(0,.ptr 1 0),(1,.int .i64 d),(4,.ptr 2 0),(5,.ptr 3 0)]) (aV s' ++[F7,Hw k p nm v ns l ts .none .none .none]):=by
   intro mm
   induction mm with
   |zero=>intro s' k p nm v ns l ts e _ _ _ h;omega
   |succ mm ihm=>
    intro s' k p nm v ns l ts e hm hs' hb' hf' hv;rw[lX]at hv
    have next:∀(s2:RS) (k p:Int) (nm:Bytes) (v:Int) (ns:List Bytes) (l:List EA) (ts:List TA) (t1 t2 t3:Tok) (e2:Env) (H2:Heap),s2.ok→s2.bad=false→6*s2.rem+7≤mm→R=lX mm d (.mk k p nm v ns l ts) s2→
      H2.take 4=aV s2 ++[F7,Hw k p nm v ns l ts t1 t2 t3]→fJ e2 [(0,.ptr 1 0),(1,.int .i64 d),(4,.ptr 2 0),(5,.ptr 3 0)]→I e2 H2:=fun s2 k p nm v ns l ts t1 t2 t3 e2 H2 c1 cb c2 c3 c4 c5=>
     hG.Ju [(0,.ptr 1 0),(1,.int .i64 d),(4,.ptr 2 0),(5,.ptr 3 0)] (aV s2 ++[F7,Hw k p nm v ns l ts .none .none .none]) (aV s2 ++[F7,Hw k p nm v ns l ts t1 t2 t3]) (H2.drop 4) (by conv=>lhs;rw[←List.take_append_drop 4 H2,c4]) (Nat.le_refl 4)
      ⟨bR.refl _,bR.refl _,bR.refl _,⟨rfl,Weak.refl _,Weak.refl _,Weak.refl _,Weak.refl _,Weak.tok _ _,Weak.tok _ _,Weak.tok _ _,trivial⟩,trivial⟩
      (uz c5 ⟨.ptr _ _ (by decide:1<4),.int _ _,.ptr _ _ (by decide:2<4),.ptr _ _ (by decide:3<4),trivial⟩)
      ⟨bB _ _ _,aI (by decide:2≤4) (CO s2),dW ⟨.int _ _,.int _ _,.str _,.int _ _,.lst _ _ trivial fP,.lst _ _ trivial fP,.lst _ _ trivial fP,trivial⟩,
       dW ⟨.int _ _,.int _ _,.str _,.int _ _,dS _ _ _ trivial,.lst _ _ trivial (vP _ _),.lst _ _ trivial (aX _ _),trivial⟩,trivial⟩
      (ihm s2 k p nm v ns l ts _ (by omega) c1 cb c2 c3)
    apply hI;conv=>whnf
    refine F'.here hs' hb' _ rfl ?_;conv=>whnf
    refine F'.qD hs' hb' _ rfl kLp (fun h3=>?_) fun s2 h3 hq hs2 hb2 hr=>?_
    ·rw[if_neg (by simp[h3])]at hv
     conv=>whnf
     refine F'.qD hs' hb' _ rfl C8 (fun h4=>?_) fun s2 h4 hq hs2 hb2 hr=>?_
     ·rw[if_neg (by simp[h4])]at hv
      subst hv;conv=>whnf
      exact aR.ret hb' (eU _ _ _ _ _ _ _ _ _ _) rfl
     ·rw[if_pos h4,hq]at hv
      conv=>whnf
      refine F'.E9 hs2 hb2 _ rfl (fun k2 a2 x2 s3 hq hs3 hb3 hr3=>?_) fun t s3 hq hb3=>?_
      ·rw[hq]at hv
       conv=>whnf
       exact next s3 _ _ _ _ [] [.mk k p nm v ns l ts] [] _ _ _ _ _ hs3 hb3 (by omega) hv rfl ⟨rfl,rfl,rfl,rfl,trivial⟩
      ·rw[hq]at hv
       conv=>whnf
       exact aR.kF (by rw[hv,(dK _).post _ _ _ hb3]) hb3 rfl
    ·rw[if_pos h3,hq]at hv
     conv=>whnf
     rw[addN (by omega)];refine(ih mm (by omega)).wV hs2 hb2 _ rfl (d+1) (by omega) (by omega) (fun c1 c2 c3 c4 c5 c6 c7 s3 hq hs3 hb3 hr3=>?_) fun t s3 hq hb3=>?_
     ·rw[hq]at hv
      conv=>whnf
      refine F'.oJ hs3 hb3 _ rfl kRp (fun s5 hq hs5 hb5 hr5=>?_) fun s5 hq hb5=>?_
      ·rw[hq]at hv
       conv=>whnf
       exact next s5 _ _ [] 0 [] [.mk k p nm v ns l ts,.mk c1 c2 c3 c4 c5 c6 c7] [] _ _ _ _ _ hs5 hb5 (by omega) hv rfl ⟨rfl,rfl,rfl,rfl,trivial⟩
      ·rw[hq]at hv
       conv=>whnf
       exact aR.kF (by rw[hv,(dK _).post _ _ _ hb5]) hb5 rfl
     ·rw[hq]at hv
      conv=>whnf
      dsimp only at hv;rw[bI hb3]at hv;exact aR.kF (by rw[hv,(dK _).post _ _ _ hb3]) hb3 rfl
  exact inv_of [(0,.ptr 1 0),(1,.int .i64 d),(4,.ptr 2 0),(5,.ptr 3 0)] ⟨rfl,rfl,rfl,rfl,trivial⟩ (key n s1 _ _ _ _ _ _ _ _ (Nat.le_refl _) hs1 hb1 (by omega) hR.symm)
 ·conv=>whnf
  exact aR.kF (by rw[←hR,(dK _).post _ _ _ hb1]) hb1 rfl
theorem LJ (F:xX T) (n:Nat) (ih:∀m,m≤n→PEx T m) (d:Nat) (s:RS) (hs:s.ok) (hb:s.bad=false) (hd:d≤65) (hf:6*s.rem+8≤n+1):PC T.L 261 [.int .i64 d] s (bY (n+1) d s).1.av (bY (n+1) d s).2:=by
 refine PC.of 0 (iN _ _) (aG F.Wh (by simp[Tz]) ?_);obtain⟨R,hR⟩:∃R,bY (n+1) d s=R:=⟨_,rfl⟩;rw[hR];rw[bY]at hR;have F':=F.todZ;conv=>whnf
 refine F'.deep hs hb d _ rfl (fun hd1=>?_) fun hd1=>?_
 ·rw[show jU d s=s from if_neg (by omega),if_neg (by simp[hb])]at hR
  conv=>whnf
  refine F'.here hs hb _ rfl ?_;obtain⟨m,rfl⟩:∃m,n=m+1:=⟨n-1,by omega⟩;have ihm:=ih m (by omega);conv=>whnf
  refine F'.qD hs hb _ rfl G7 (fun h0=>?_) fun s1 h0 hq hs1 hb1 hr1=>?_
  ·rw[if_neg (by simp[h0])]at hR
   conv=>whnf
   refine F'.qD hs hb _ rfl tJ (fun h1=>?_) fun s1 h1 hq hs1 hb1 hr1=>?_
   ·rw[if_neg (by simp[h1])]at hR
    conv=>whnf
    refine F'.qD hs hb _ rfl kIf (fun h2=>?_) fun s1 h2 hq hs1 hb1 hr1=>?_
    ·rw[if_neg (by simp[h2])]at hR
     conv=>whnf
     have hc:=(ih (m+1) (Nat.le_refl _)).call d s hs hb (by omega) (by omega);rw[show DW (m+1) d s=R from hR]at hc;obtain⟨⟨a1,a2,a3,a4,a5,a6,a7⟩,s1⟩:=R;dsimp only at hc;refine hc.to (dF (.int _ _)) (iN _ _) _ rfl (fun hb1=>?_) fun hb1=>?_
     ·conv=>whnf
      exact aR.ret hb1 (Weak.refl _) rfl
     ·conv=>whnf
      exact aR.pan hb1 rfl
    ·rw[if_pos h2,hq,ifR]at hR
     conv=>whnf
     rw[addN (by omega)];refine ihm.wV hs1 hb1 _ rfl (d+1) (by omega) (by omega) (fun a1 a2 a3 a4 a5 a6 a7 s2 hq hs2 hb2 hr2=>?_) fun t s2 hq hb2=>?_
     ·rw[hq]at hR
      conv=>whnf
      refine F'.oJ hs2 hb2 _ rfl Fj (fun s3 hq hs3 hb3 hr3=>?_) fun s3 hq hb3=>?_
      ·rw[hq]at hR
       conv=>whnf
       rw[addN (by omega)];refine ihm.wV hs3 hb3 _ rfl (d+1) (by omega) (by omega) (fun b1 b2 b3 b4 b5 b6 b7 s4 hq hs4 hb4 hr4=>?_) fun t s4 hq hb4=>?_
       ·obtain⟨m',rfl⟩:∃m',m=m'+1:=⟨m-1,by omega⟩
        rw[hq,tV]at hR;conv=>whnf
        refine F'.oJ hs4 hb4 _ rfl kElse (fun s5 hq hs5 hb5 hr5=>?_) fun s5 hq hb5=>?_
        ·rw[hq]at hR
         conv=>whnf
         rw[addN (by omega)];refine(ih m' (by omega)).wV hs5 hb5 _ rfl (d+1) (by omega) (by omega) (fun c1 c2 c3 c4 c5 c6 c7 s6 hq hs6 hb6 hr6=>?_) fun t s6 hq hb6=>?_
         ·rw[hq]at hR
          subst hR;conv=>whnf
          refine⟨⟨rfl,rfl,trivial⟩,?_⟩;conv=>whnf
          exact aR.ret hb6 (eU 10 s.tok.at_ [] 0 [] [.mk a1 a2 a3 a4 a5 a6 a7,.mk b1 b2 b3 b4 b5 b6 b7,.mk c1 c2 c3 c4 c5 c6 c7] [] _ _ _) rfl
         ·rw[hq]at hR
          subst hR;conv=>whnf
          exact aR.kF rfl hb6 rfl
        ·rw[hq]at hR
         conv=>whnf
         exact aR.kF (by rw[←hR];exact(dK _).expr _ _ hb5) hb5 rfl
       ·rw[hq]at hR
        conv=>whnf
        exact aR.kF (by rw[←hR];exact(dK _).el _ _ _ _ hb4) hb4 rfl
      ·rw[hq]at hR
       conv=>whnf
       have h:=(dK m).expr (d+1) _ hb3;exact aR.kF (by rw[←hR];exact((dK _).el _ _ _ _ (by rw[h];exact hb3)).trans h) hb3 rfl
     ·rw[hq]at hR
      dsimp only at hR;rw[bI hb2]at hR;conv=>whnf
      have h:=(dK m).expr (d+1) _ hb2;exact aR.kF (by rw[←hR];exact((dK _).el _ _ _ _ (by rw[h];exact hb2)).trans h) hb2 rfl
   ·rw[if_pos h1,hq]at hR
    conv=>whnf
    refine F'.E9 hs1 hb1 _ rfl (fun k2 p2 x2 s2 hq hs2 hb2 hr2=>?_) fun t s2 hq hb2=>?_
    ·rw[hq,Bh]at hR
     dsimp only at hR;conv=>whnf
     refine F'.oJ hs2 hb2 _ rfl kEq (fun s3 hq hs3 hb3 hr3=>?_) fun s3 hq hb3=>?_
     ·rw[hq]at hR
      conv=>whnf
      rw[addN (by omega)];refine ihm.wV hs3 hb3 _ rfl (d+1) (by omega) (by omega) (fun a1 a2 a3 a4 a5 a6 a7 s4 hq hs4 hb4 hr4=>?_) fun t s4 hq hb4=>?_
      ·rw[hq]at hR
       conv=>whnf
       refine F'.oJ hs4 hb4 _ rfl kIn (fun s5 hq hs5 hb5 hr5=>?_) fun s5 hq hb5=>?_
       ·rw[hq]at hR
        conv=>whnf
        rw[addN (by omega)];refine ihm.wV hs5 hb5 _ rfl (d+1) (by omega) (by omega) (fun c1 c2 c3 c4 c5 c6 c7 s6 hq hs6 hb6 hr6=>?_) fun t s6 hq hb6=>?_
        ·rw[hq]at hR
         subst hR;conv=>whnf
         refine⟨⟨rfl,trivial⟩,?_⟩;conv=>whnf
         exact aR.ret hb6 (eU 9 s.tok.at_ x2 0 [] [.mk a1 a2 a3 a4 a5 a6 a7,.mk c1 c2 c3 c4 c5 c6 c7] [] _ _ _) rfl
        ·rw[hq]at hR
         subst hR;conv=>whnf
         exact aR.kF rfl hb6 rfl
       ·rw[hq]at hR
        conv=>whnf
        exact aR.kF (by rw[←hR];exact(dK _).expr _ _ hb5) hb5 rfl
      ·rw[hq]at hR
       dsimp only at hR;rw[bI hb4]at hR;conv=>whnf
       exact aR.kF (by rw[←hR];exact(dK _).expr _ _ hb4) hb4 rfl
     ·rw[hq]at hR
      conv=>whnf
      exact aR.kF (by rw[←hR,(dK _).expr _ _ hb3,bI hb3];exact(dK _).expr _ _ hb3) hb3 rfl
    ·rw[hq]at hR
     conv=>whnf
     exact aR.kF (by rw[←hR];exact(dK _).lt _ _ _ hb2) hb2 rfl
  ·rw[if_pos h0,hq]at hR
   conv=>whnf
   refine F'.oJ hs1 hb1 _ rfl kLp (fun s2 hq hs2 hb2 hr2=>?_) fun s2 hq hb2=>?_
   ·rw[hq]at hR
    conv=>whnf
    refine F'.E9 hs2 hb2 _ rfl (fun k2 p2 x2 s3 hq hs3 hb3 hr3=>?_) fun t s3 hq hb3=>?_
    ·rw[hq,Bl]at hR
     dsimp only at hR;conv=>whnf
     refine F'.oJ hs3 hb3 _ rfl aQ (fun s4 hq hs4 hb4 hr4=>?_) fun s4 hq hb4=>?_
     ·rw[hq,if_neg (by simp[hb4])]at hR
      conv=>whnf
      rw[addN (by omega)];refine F.toF4.UY hs4 hb4 _ rfl m (d+1) (by omega) (by omega) (fun a1 a2 a3 a4 s5 hq hs5 hb5 hr5=>?_) fun t s5 hq hb5=>?_
      ·rw[hq]at hR
       conv=>whnf
       refine F'.oJ hs5 hb5 _ rfl kRp (fun s6 hq hs6 hb6 hr6=>?_) fun s6 hq hb6=>?_
       ·rw[hq,if_neg (by simp[hb6])]at hR
        conv=>whnf
        rw[addN (by omega)];refine ihm.wV hs6 hb6 _ rfl (d+1) (by omega) (by omega) (fun c1 c2 c3 c4 c5 c6 c7 s7 hq hs7 hb7 hr7=>?_) fun t s7 hq hb7=>?_
        ·rw[hq]at hR
         subst hR;conv=>whnf
         exact aR.ret hb7 (eU 8 s.tok.at_ x2 0 [] [.mk c1 c2 c3 c4 c5 c6 c7] [.mk a1 a2 a3 a4] _ _ _) rfl
        ·rw[hq]at hR
         subst hR;conv=>whnf
         exact aR.kF rfl hb7 rfl
       ·rw[hq,if_pos hb6]at hR
        subst hR;conv=>whnf
        exact aR.kF rfl hb6 rfl
      ·rw[hq]at hR
       dsimp only at hR;rw[bI hb5,if_pos hb5]at hR;subst hR;conv=>whnf
       exact aR.kF rfl hb5 rfl
     ·rw[hq,if_pos hb4]at hR
      subst hR;conv=>whnf
      exact aR.kF rfl hb4 rfl
    ·rw[hq]at hR
     conv=>whnf
     exact aR.kF (by rw[←hR];exact(dK _).fn _ _ _ hb3) hb3 rfl
   ·rw[hq,Pk hb2]at hR
    conv=>whnf
    exact aR.kF (by rw[←hR];exact(dK _).fn _ _ _ hb2) hb2 rfl
 ·rw[show jU d s=cZ s 3 from if_pos hd1,if_pos (gu s 3)]at hR
  subst hR;conv=>whnf
  exact aR.pan (gu _ _) rfl
theorem Vv (F:xX T):∀n,PEx T n:=fun n=>Nat.strongRecOn n fun n ih=>by
 cases n with
 |zero=>exact⟨fun d s hs hb hd hf=>by omega,fun d s hs hb hd hf=>by omega,fun d s hs hb hd hf=>by omega⟩
 |succ n=>
  have ih':∀m,m≤n→PEx T m:=fun m hm=>ih m (by omega)
  have VL:=fun d s hs hb hd hf=>Jf F n ih' d s hs hb hd hf
  exact⟨fun d s hs hb hd hf=>LJ F n ih' d s hs hb hd hf,fun d s hs hb hd hf=>LM F (n+1) ih VL d s hs hb hd hf,VL⟩
end Go.Ag
/- Package parse: decl, skip, Parse. -/
namespace Go.Ag
open Go
variable {T : Tab} {L : Lnk}
structure zh (T:Tab):Prop extends xX T,Ih T where
 WJ:T.has 189 Ud
 Wu:T.has 227 TN
 Wt:T.has 228 TM
 Ws:T.has 229 TL
theorem LK (F:zh T) (n:Nat) (s:RS) (hs:s.ok) (hb:s.bad=false) (hf:6*s.rem+8≤n):PC T.L 228 [] s (fK n s).1.av (fK n s).2:=by
 refine PC.of 0 (uP _ _) (aG F.Wt (by simp[TM]) ?_);obtain⟨R,hR⟩:∃R,fK n s=R:=⟨_,rfl⟩;rw[hR];unfold fK at hR;have F':=F.todZ;have hE:=Vv F.toxX n;conv=>whnf
 refine F'.qD hs hb _ rfl Eh (fun h0=>?_) fun s1 h0 hq hs1 hb1 hr1=>?_
 ·rw[if_neg (by simp[h0])]at hR
  conv=>whnf
  refine F'.qD hs hb _ rfl nA (fun h1=>?_) fun s1 h1 hq hs1 hb1 hr1=>?_
  ·rw[if_neg (by simp[h1])]at hR
   conv=>whnf
   refine F'.qD hs hb _ rfl tJ (fun h2=>?_) fun s1 h2 hq hs1 hb1 hr1=>?_
   ·rw[if_neg (by simp[h2])]at hR
    subst hR;conv=>whnf
    refine F'.fail hs hb 2 _ rfl ?_;conv=>whnf
    exact aR.pan (gu _ _) rfl
   ·rw[if_pos h2,hq]at hR
    conv=>whnf
    refine F'.E9 hs1 hb1 _ rfl (fun k2 p2 x2 s2 hq hs2 hb2 hr2=>?_) fun t s2 hq hb2=>?_
    ·rw[hq,AY]at hR
     dsimp only at hR;conv=>whnf
     refine⟨⟨rfl,trivial⟩,?_⟩;conv=>whnf
     refine F'.qD hs2 hb2 _ rfl aQ (fun h3=>?_) fun s3 h3 hq hs3 hb3 hr3=>?_
     case' refine_1=>
      rw[if_neg (by simp[h3])]at hR;obtain⟨ts,hts⟩:∃ts:List TA,ts=[]:=⟨_,rfl⟩;rw[←hts]at hR;have hs4:=hs2;have hb4:=hb2;have hr4:s2.rem≤s2.rem:=Nat.le_refl _;obtain⟨s4,Yg⟩:∃s4,s4=s2:=⟨_,rfl⟩;rw[←Yg]at hR hs4 hb4;rw[←Yg];replace hr4:s4.rem≤s2.rem:=by rw[Yg];exact Nat.le_refl _
      conv=>whnf
     case' refine_2=>
      rw[if_pos h3,hq]at hR;conv=>whnf
      refine F.toF4.UY hs3 hb3 _ rfl n 1 (by omega) (by omega) (fun a1 a2 a3 a4 s4 hq hs4 hb4 hr4=>?_) (fun t s4 hq hb4=>by
       rw[hq]at hR
       have e1:R.2=s4:=by
        rw[←hR,tX];dsimp only;rw[bI hb4,(dK n).expr _ _ hb4,bI hb4]
       conv=>whnf
       exact aR.kF e1 hb4 rfl)
      rw[hq]at hR;obtain⟨ts,hts⟩:∃ts:List TA,ts=[.mk a1 a2 a3 a4]:=⟨_,rfl⟩;rw[←hts]at hR;conv=>whnf
     all_goals
      rw[tX]at hR;refine F'.oJ hs4 hb4 _ rfl kEq (fun s5 hq hs5 hb5 hr5=>?_) fun s5 hq hb5=>?_
      ·rw[hq]at hR
       conv=>whnf
       refine hE.wV hs5 hb5 _ rfl 1 (by omega) (by omega) (fun c1 c2 c3 c4 c5 c6 c7 s6 hq hs6 hb6 hr6=>?_) fun t s6 hq hb6=>?_
       ·rw[hq]at hR
        conv=>whnf
        refine F'.oJ hs6 hb6 _ rfl iV (fun s7 hq hs7 hb7 hr7=>?_) fun s7 hq hb7=>?_
        ·rw[hq]at hR
         subst hR;subst hts;conv=>whnf
         first
         |exact aR.ret hb7 (kL 3 p2 x2 [] [.mk c1 c2 c3 c4 c5 c6 c7] _ _) rfl
         |exact aR.ret hb7 (kL 3 p2 x2 [.mk a1 a2 a3 a4] [.mk c1 c2 c3 c4 c5 c6 c7] _ _) rfl
        ·rw[hq]at hR
         subst hR;conv=>whnf
         exact aR.kF rfl hb7 rfl
       ·rw[hq]at hR
        dsimp only at hR;rw[bI hb6]at hR;subst hR;conv=>whnf
        exact aR.kF rfl hb6 rfl
      ·rw[hq]at hR
       have h:=(dK n).expr 1 _ hb5;rw[h,bI hb5]at hR;subst hR;conv=>whnf
       exact aR.kF rfl hb5 rfl
    ·rw[hq]at hR
     have e1:R.2=s2:=by
      have h:=(dK n).expr 1 _ hb2;rw[←hR,AY];dsimp only;rw[kP hb2,if_neg (by simp),tX];dsimp only;rw[bI hb2,h,bI hb2]
     conv=>whnf
     exact aR.kF e1 hb2 rfl
  ·rw[if_pos h1,hq]at hR
   conv=>whnf
   refine F'.E9 hs1 hb1 _ rfl (fun k2 p2 x2 s2 hq hs2 hb2 hr2=>?_) fun t s2 hq hb2=>?_
   ·rw[hq,declT]at hR
    dsimp only at hR;conv=>whnf
    refine⟨⟨rfl,trivial⟩,?_⟩;conv=>whnf
    refine F'.oJ hs2 hb2 _ rfl kEq (fun s3 hq hs3 hb3 hr3=>?_) fun s3 hq hb3=>?_
    ·rw[hq]at hR
     conv=>whnf
     refine F.toF4.UY hs3 hb3 _ rfl n 1 (by omega) (by omega) (fun a1 a2 a3 a4 s4 hq hs4 hb4 hr4=>?_) fun t s4 hq hb4=>?_
     ·rw[hq]at hR
      conv=>whnf
      refine F'.oJ hs4 hb4 _ rfl iV (fun s5 hq hs5 hb5 hr5=>?_) fun s5 hq hb5=>?_
      ·rw[hq]at hR
       subst hR;conv=>whnf
       exact aR.ret hb5 (kL 2 p2 x2 [.mk a1 a2 a3 a4] [] _ _) rfl
      ·rw[hq]at hR
       subst hR;conv=>whnf
       exact aR.kF rfl hb5 rfl
     ·rw[hq]at hR
      dsimp only at hR;rw[bI hb4]at hR;subst hR;conv=>whnf
      exact aR.kF rfl hb4 rfl
    ·rw[hq]at hR
     have h:=(rX n).1 1 _ hb3;rw[h,bI hb3]at hR;subst hR;conv=>whnf
     exact aR.kF rfl hb3 rfl
   ·rw[hq]at hR
    have e1:R.2=s2:=by
     have h:=(rX n).1 1 _ hb2;rw[←hR,declT];dsimp only;rw[bI hb2,h,bI hb2]
    conv=>whnf
    exact aR.kF e1 hb2 rfl
 ·rw[if_pos h0,hq]at hR
  conv=>whnf
  refine F'.E9 hs1 hb1 _ rfl (fun k2 p2 x2 s2 hq hs2 hb2 hr2=>?_) fun t s2 hq hb2=>?_
  ·rw[hq,Kt]at hR
   dsimp only at hR;conv=>whnf
   refine⟨⟨rfl,trivial⟩,?_⟩;conv=>whnf
   refine F'.oJ hs2 hb2 _ rfl iV (fun s3 hq hs3 hb3 hr3=>?_) fun s3 hq hb3=>?_
   ·rw[hq]at hR
    subst hR;conv=>whnf
    exact aR.ret hb3 (kL 1 p2 x2 [] [] _ _) rfl
   ·rw[hq]at hR
    subst hR;conv=>whnf
    exact aR.kF rfl hb3 rfl
  ·rw[hq,Kt]at hR
   dsimp only at hR;rw[bI hb2]at hR;subst hR;conv=>whnf
   exact aR.kF rfl hb2 rfl
theorem LB (F:zh T) (g:RS) (hg:g.ok) (hb:g.bad=false):PC T.L 229 [] g (.tup []) (jf (mG g.rem g)):=by
 refine PC.of 0 bG (aG F.Ws (by simp[TL]) ?_);have F':=F.todZ;obtain⟨R,hR⟩:∃R,jf (mG g.rem g)=R:=⟨_,rfl⟩;rw[hR];conv=>whnf
 intro I hI hG
 have key:∀(m:Nat) (s:RS) (e:Env),s.ok→s.bad=false→s.rem≤m→jf (mG m s)=R→I (fZ e [(0,.ptr 1 0)]) (aV s):=by
  intro m
  induction m with
  |zero=>
   intro s e h1 _ h2;have:=h1.lt;unfold RS.rem at h2;omega
  |succ m ih=>
   intro s e hs hb hr hv;rw[mG]at hv;apply hI;conv=>whnf
   refine F'.here hs hb [] (by simp) ?_;conv=>whnf
   cases hk:(s.tok.kind !=6)
   ·have NQ:isR s iV=false:=by
     cases h:isR s iV
     ·rfl
     ·exact absurd (vS h).1 (by simpa using hk)
    rw[if_neg (by simp[hk]),jf,if_neg (by simp[NQ])]at hv;subst hv;conv=>whnf
    exact aR.ret hb (Weak.refl _) rfl
   ·conv=>whnf
    refine F'.qD hs hb [] (by rfl) iV (fun h=>?_) fun s2 h hq hs2 hb2 hr2=>?_
    ·rw[if_pos (by simp[hk,h])]at hv
     conv=>whnf
     rw[addN hs.i];have hle2:=mJ hs (by simpa using hk);have hlt:=hle2.lt;simp only at hlt;exact inv_of [(0,.ptr 1 0)] ⟨rfl,trivial⟩ (ih {s with i:=s.i+1} _ (hs.of hle2) hb (by unfold RS.rem at*;simp only;omega) hv)
    ·rw[if_neg (by simp[h]),jf,if_pos h]at hv
     have:R=s2:=by rw[←hv,←hq,jI h]
     rw[this];conv=>whnf
     exact aR.ret hb2 (Weak.refl _) rfl
 have:aV g ++List.replicate 0 .dead=aV g:=by simp
 exact inv_of [(0,.ptr 1 0)] ⟨rfl,trivial⟩ (key _ _ _ hg hb (Nat.le_refl _) hR)
end Go.Ag
/- Package parse: Parse: the declarations are those of the document's reader. -/
namespace Go.Ag
open Go
variable {T : Tab} {L : Lnk}
def XI :aS:=.cells [.int .i64 0,.int .i64 0,.str [],.lst [] .nil,.lst [] .nil] 242
def dcell (d:dV):aS:=.cells [.int .i64 d.kind,.int .i64 d.at_,.str d.name,.lst (TA.avs d.ts) .none,.lst (EA.avs d.es) .none] 242
theorem M0 (F:zh T) (src:Bytes) (hs:src.length≤2^31):Pure T.L 189 [.str src] (.tup [.lst ((gK src).1.map dV.av) .none,.lst ((gK src).2.diags.map bM.av) .none]):=by
 refine Pure.IZ 3 (dF (.str _)) (.tup _ (gD.at ⟨.lst _ _ trivial (vQ _ _),gP _ _ _ trivial,trivial⟩)) (aG F.WJ (by simp[Ud]) ?_);obtain⟨hok,hlen,hdl⟩:=mE src (by omega);obtain⟨R,hR⟩:∃R,gK src=R:=⟨_,rfl⟩;rw[hR];unfold gK at hR;have hn:6*(bD src).rem+8≤og src:=Nat.le_refl _;generalize og src=n at hR hn;conv=>whnf
 refine(UQ F.lex src hs (i:=0) (j:=1) rfl rfl (by decide)).to1 ?_;conv=>whnf
 intro I hI hG
 have key:∀(k:Nat) (s:RS) (l:List dV) (XS:List au) (e:Env),s.okN k→s.bad=false→s.rem≤k→6*s.rem+8≤n→l.length+s.rem≤2^34→R=jB n k l s→XS=l.map dV.av→
   I (fZ e [(6,.ptr 4 0),(7,.lst XS (bA XS.length 2))]) [.gone,aZ s.diags.length 333,aZ XS.length 242,pV 1 s,.cells [.ptr 3 0] 225]:=by
  intro k
  induction k with
  |zero=>
   intro s l XS e hk hb hr;have:=hk.lt;unfold RS.rem at hr;omega
  |succ k ih=>
   intro s l XS e hsN hb hr hfu hll hv hX;have hs1:=hsN.ok;rw[jB]at hv
   have next:∀(s2:RS) (l2:List dV) (YS:List au) (e2:Env) (H2:Heap),s2.okN k→s2.bad=false→s2.rem≤k→6*s2.rem+8≤n→l2.length+s2.rem≤2^34→R=jB n k l2 s2→YS=l2.map dV.av→
     H2.take 5=[.gone,aZ s2.diags.length 333,aZ YS.length 242,pV 1 s2,.cells [.ptr 3 0] 225]→fJ e2 [(6,.ptr 4 0),(7,.lst YS (bA YS.length 2))]→I e2 H2:=fun s2 l2 YS e2 H2 c1 c2 c3 c4 c5 c6 c7 c8 c9=>
    hG.keep [(6,.ptr 4 0),(7,.lst YS (bA YS.length 2))] [.gone,aZ s2.diags.length 333,aZ YS.length 242,pV 1 s2,.cells [.ptr 3 0] 225] (Nat.le_refl 5) c8 c9
     ⟨.ptr _ _ (by decide:4<5),.lst _ _ (dI (by decide:2<5)) (by rw[c7];exact vQ _ _),trivial⟩
     ⟨trivial,bB _ _ _,bB _ _ _,dW ⟨jL _ _ _ trivial,.int _ _,gP _ _ _ (dI (by decide:1<5)),trivial⟩,dW ⟨.ptr _ _ (by decide:3<5),trivial⟩,trivial⟩ (ih s2 l2 YS _ c1 c2 c3 c4 c5 c6 c7)
   apply hI;conv=>whnf
   refine((zR F.todZ s hs1 hb).at2 (fun x hx=>by cases hx) (nM 0 _) (d:=1) (p:=3) rfl rfl (by decide)).toR ?_;rw[hb];conv=>whnf
   cases hk6:(s.tok.kind !=6)
   ·rw[if_neg (by simp[hk6])]at hv
    subst hv hX;conv=>whnf
    exact aH (Weak.tup ⟨Weak.tok _ _,Weak.tok _ _,trivial⟩)
   ·rw[if_pos hk6]at hv
    conv=>whnf
    have hd:=LK F n s hs1 hb hfu;have hle:=Bw (n:=n) hs1;have hrr:=vI (n:=n) hsN hb (by simpa using hk6);obtain⟨q,hq⟩:∃q,fK n s=q:=⟨_,rfl⟩;rw[hq]at hd hle hrr hv;have hs2:=hs1.of hle;obtain⟨⟨dk,dp,dn,dts,des⟩,s'⟩:=q;dsimp only at hd hle hrr hv hs2;refine F.cau.to (b:=s'.bad) (H1:=[.gone,aZ s'.diags.length 333,aZ XS.length 242,pV 1 s',.cells [.ptr 3 0] 225,if s'.bad then XI else dcell ⟨dk,dp,dn,dts,des⟩]) ?_ ?_
    ·refine aG F.Wu (by simp[TN]) ?_
     conv=>whnf
     refine(hd.at2 (fun x hx=>by cases hx) (uP 0 _) (d:=1) (p:=3) rfl rfl (by decide)).toR ?_;cases s'.bad
     ·conv=>whnf
      exact⟨rfl,rfl⟩
     ·conv=>whnf
      exact⟨rfl,rfl⟩
    ·conv=>whnf
     cases hb2:s'.bad
     ·rw[if_neg (by simp[hb2])]at hv
      obtain⟨k1,k2⟩:=hrr.1 hb2;conv=>whnf
      refine dx (id:=2) (by rw[hX];exact Am l) (bN rfl) (by rw[hX];simp;omega) (by rw[hX];simp;omega) (by simp) rfl ?_;conv=>whnf
      exact next s' (l ++[⟨dk,dp,dn,dts,des⟩]) _ _ _ k1 hb2 (by omega) (by omega) (by simp;omega) hv (by rw[hX];simp;rfl) rfl ⟨rfl,rfl,trivial⟩
     ·rw[if_pos hb2]at hv
      obtain⟨k1,k2,k3⟩:=hrr.2 hb2;have hgood:=((hsN.of hle).good).ok;have hsk:=LB F {s' with bad:=false} hgood rfl;have hag:jf (mG ({s' with bad:=false}:RS).rem {s' with bad:=false})=jf (oI s'):=rfl;rw[hag]at hsk;generalize jf (oI s')=g at hsk hv k1 k2 k3;conv=>whnf
      refine(hsk.at2 (fun x hx=>by cases hx) bG (d:=1) (p:=3) rfl rfl (by decide)).toR ?_;rw[k3];conv=>whnf
      exact next g l XS _ _ k1 k3 (by omega) (by omega) (by omega) hv hX rfl ⟨rfl,rfl,trivial⟩
 have zQ:(bD src).rem≤src.length+1:=by unfold RS.rem;omega
 refine inv_of [(6,.ptr 4 0),(7,.lst [] .nil)] ⟨rfl,rfl,trivial⟩ (key (bD src).rem (bD src) [] [] _ ⟨hok.lt,hok.more,hok.len,hok.txt,?_,hok.named,hok.num⟩ rfl (Nat.le_refl _) hn (by simp;omega) hR.symm rfl)
 have hp:(bD src).pot≤(bD src).diags.length+2*(bD src).toks.length+1:=by
  unfold RS.pot;split<;>omega
 omega
end Go.Ag
/- Package types: Size; cupelref07.Size; cupellaw08.Small. -/
namespace Go.Ag
open Go
variable {T : Tab} {L : Lnk}
theorem BD :∀(n:Nat) (t:TA),wtT t≤n→16*(allT t).length≤wtT t
 |0=>fun t h=>by obtain⟨k,nm,ns,l⟩:=t;rw[wtT]at h;omega
 |n+1=>fun t h=>by
  obtain⟨k,nm,ns,l⟩:=t;rw[wtT]at h⊢;rw[allT,List.length_cons]
  have:∀l:List TA,wtL l≤n→16*(Ab l).length≤wtL l:=fun l=>by
   induction l with
   |nil=>intro _;simp[Ab]
   |cons a l ih=>
    intro h;rw[wtL]at h⊢;rw[Ab,List.length_append];have h1:=BD n a (by omega);have h2:=ih (by omega);omega
  have h2:=this l (by omega);omega
def szT (t:TA):Nat:=(allT t).length
def szL (l:List TA):Nat:=(Ab l).length
theorem pO (k:Int) (nm:Bytes) (ns:List Bytes) (l:List TA):szT (.mk k nm ns l)=szL l+1:=by unfold szT szL;rw[allT,List.length_cons]
theorem fG (t:TA) (l:List TA):szL (t::l)=szT t+szL l:=by unfold szT szL;rw[Ab,List.length_append]
theorem Gf (t:TA):1≤szT t:=by obtain⟨k,nm,ns,l⟩:=t;rw[pO];omega
theorem Iu (l:List TA) (j:Nat) (h:j<l.length):szL (l.take (j+1))=szL (l.take j)+szT l[j]:=by
 have app:∀a b:List TA,szL (a ++b)=szL a+szL b:=fun a b=>by
  induction a with
  |nil=>simp[szL,Ab]
  |cons t a ih=>rw[List.cons_append,fG,fG,ih];omega
 rw[List.take_succ_eq_append_getElem h,app,fG];simp[szL,Ab]
theorem Gh :∀{l:List TA} {t:TA},t∈l→szT t≤szL l
 |[],t,h=>by cases h
 |a::l,t,h=>by
  rw[fG];rcases List.mem_cons.1 h with rfl|h
  ·omega
  ·have:=Gh h;omega
theorem uD (J2:T.has 190 Ov):∀(n:Nat) (t:TA),wtT t<n→wtT t≤2^40→Pure T.L 190 [t.av] (.int .i64 (szT t))
 |0=>fun t h=>by omega
 |n+1=>fun t hlt hw=>by
  have ih:=uD J2 n;have hlen:=BD _ t (Nat.le_refl _);obtain⟨k,nm,ns,l⟩:=t;refine Pure.run (dF (aT _ _)) (.int _ _) (aG J2 (by simp[Ov]) ?_);have hsz:szL l+1≤2^40:=by rw[←pO k nm ns l];unfold szT;omega
  rw[pO];conv=>whnf
  intro I hI hG
  have key:∀(d j:Nat) (e:Env),l.length-j=d→j≤l.length→I (fZ e [(1,.ptr 0 0),(3,.int .i64 ((szL (l.take j)+1:Nat):Int)),(4,.int .i64 j)]) [.cells [.int .i64 k,.str nm,.lst (aJ ns) .none,.lst (TA.avs l) .none] 109]:=by
   intro d
   induction d with
   |zero=>
    intro j e hd hj;have hjl:j=l.length:=by omega
    apply hI;conv=>whnf
    rw[show decide (((j:Nat):Int)<(((TA.avs l).length:Nat):Int))=false from by rw[bH,hjl];simp];conv=>whnf
    rw[hjl,List.take_length];exact aH (Weak.refl _)
   |succ d ihd=>
    intro j e hd hj;have hjl:j<l.length:=by omega
    have hget:=nH hjl;have hmem:=List.getElem_mem hjl;have hwl:=gY hmem;have hll:=qJ l;rw[wtT]at hlt hw;have hc:=ih l[j] (by omega) (by omega);have hnext:=fun e=>ihd (j+1) e (by omega) hjl
    rw[Iu l j hjl]at hnext
    have hs:szL (l.take j)+szT l[j]≤szL l:=by
     rw[←Iu l j hjl]
     have:∀(a b:List TA),szL a≤szL (a ++b):=fun a b=>by
      induction a with
      |nil=>simp[szL,Ab]
      |cons t a ih=>rw[List.cons_append,fG,fG];omega
     have h2:=this (l.take (j+1)) (l.drop (j+1));rwa[List.take_append_drop]at h2
    generalize l[j]=v at hget hc hnext hs;apply hI;obtain⟨vk,vn,vs,vl⟩:=v;conv=>whnf
    rw[show decide (((j:Nat):Int)<(((TA.avs l).length:Nat):Int))=true from by rw[bH];simp;omega];conv=>whnf
    refine step_elem (Int.natCast_nonneg _) hget rfl ?_;conv=>whnf
    refine hc.to ?_;conv=>whnf
    refine inv_of [(1,.ptr 0 0),(3,.int .i64 ((szL (l.take j)+szT (.mk vk vn vs vl)+1:Nat):Int)),(4,.int .i64 (j+1:Nat))] ⟨rfl,?_,add1 (by omega),trivial⟩ (hnext _);show au.int .i64 (IntKind.i64.wrap (((szL (l.take j)+1:Nat):Int)+((szT (.mk vk vn vs vl):Nat):Int)))=_;rw[IntWalk.i64_in _ (by omega)]
    congr 1
    omega
  exact inv_of [(1,.ptr 0 0),(3,.int .i64 1),(4,.int .i64 0)] ⟨rfl,rfl,rfl,trivial⟩ (key l.length 0 _ rfl (Nat.zero_le _))
end Go.Ag
/- The types that a reader reads are good ones, and no bigger than their text. -/
namespace Go.Ag
open Go
def xS (m:Nat) (s:RS):Prop:=∀t∈s.toks,(t.kind=1→jM t.text)∧t.text.length≤m
theorem xS.le {m:Nat} {s s':RS} (h:xS m s) (hl:s.le s'):xS m s':=by unfold xS;rw[hl.toks];exact h
theorem Ew {s:RS} {w:Bytes} (h:s.bad=true):aD s w=s:=by
 unfold aD isR cZ;simp[h]
theorem Ql {s:RS} (h:(fB s).bad=false):s.bad=false:=by
 cases hb:s.bad
 ·rfl
 ·exfalso
  unfold fB at h;have h1:isR s kRb=false:=by unfold isR;simp[hb]
  rw[h1,Ew hb,h1]at h;simp[hb]at h
theorem Uy {n d:Nat} {l:List TA} {s:RS} (h:(jo n d l s).2.bad=false):s.bad=false:=by
 cases hb:s.bad
 ·rfl
 ·exfalso
  have h1:isR s mg=false:=by unfold isR;simp[hb]
  cases n with
  |zero=>rw[jo]at h;rw[hb]at h;cases h
  |succ n=>rw[jo,h1]at h;simp[hb]at h
theorem MG {n d:Nat} {o:TA} {s:RS} (h:(dh n d o s).2.bad=false):s.bad=false:=by
 cases hb:s.bad
 ·rfl
 ·exfalso
  cases n with
  |zero=>rw[dh]at h;rw[hb]at h;cases h
  |succ n=>rw[dh]at h;simp[hb,Ew hb]at h
theorem Qy {n d:Nat} {s:RS} (h:(bU n d s).2.bad=false) (hn:2≤n):s.bad=false:=by
 cases hb:s.bad
 ·rfl
 ·exfalso
  obtain⟨m,rfl⟩:∃m,n=m+2:=⟨n-2,by omega⟩;have hp:dU (m+1) d s=(jY,s):=by rw[dU,if_pos hb]
  have h1:isR s qy=false:=by unfold isR;simp[hb]
  rw[bU,hp,h1]at h;simp[hb]at h
theorem Na {m:Nat} {s:RS} (hs:s.ok) (h:xS m s):(s.tok.kind=1→jM s.tok.text)∧s.tok.text.length≤m:=h _ (List.mem_of_getElem? (uo hs))
theorem Mj {ns:List Bytes} {nm:Bytes} (h:ns.Pairwise (· < ·)) (hn:nm∉ns):(jX ns (l9 ns nm) nm).Pairwise (· < ·):=by
 have h1:((ns.map fun n=>(n,())).map (·.1))=ns:=by rw[List.map_map];exact(List.map_congr_left (g:=id) fun x _=>rfl).trans (List.map_id ns)
 have h2:=AA (l:=ns.map fun n=>(n,())) (p:=(nm,())) (by rw[List.pairwise_map];exact h) (fun q hq=>by
  obtain⟨n,hm,rfl⟩:=List.mem_map.1 hq
  rintro rfl;exact hn hm)
 unfold JK at h2;rw[h1]at h2;have h3:((jX (ns.map fun n=>(n,())) (l9 ns nm) (nm,())).map (·.1)).Pairwise (· < ·):=List.pairwise_map.2 h2;rw[Df,h1]at h3;exact h3
theorem NM {α:Type} {l:List α} {i:Nat} {x y:α} (h:y∈jX l i x):y=x∨y∈l:=by
 unfold jX at h;simp only[List.mem_append,List.mem_singleton]at h;rcases h with(h|h)|h
 ·exact .inr (List.mem_of_mem_take h)
 ·exact .inl h
 ·exact .inr (List.mem_of_mem_drop h)
theorem NK {α:Type} (f:α→Nat) (l:List α) (i:Nat) (x:α):((jX l i x).map f).sum=(l.map f).sum+f x:=by
 unfold jX
 have h:(l.map f).sum=((l.take i).map f).sum+((l.drop i).map f).sum:=by
  conv=>lhs;rw[←List.take_append_drop i l]
  rw[List.map_append,List.sum_append_nat]
 rw[h];simp only[List.map_append,List.sum_append_nat,List.map_cons,List.map_nil,List.sum_cons,List.sum_nil];omega
structure GoodR (m n:Nat):Prop where
 typ:∀d s,s.ok→xS m s→6*s.rem+6≤n→((bJ n d s).2.bad=false→GT (bJ n d s).1)∧wtT (bJ n d s).1≤48+(80+m)*((bJ n d s).2.i-s.i)
 alts:∀d l s,s.ok→xS m s→6*s.rem+1≤n→((jo n d l s).2.bad=false→(∀t∈l,GT t)→∀t∈(jo n d l s).1,GT t)∧(l≠[]→(jo n d l s).1≠[])∧wtL (jo n d l s).1≤wtL l+(80+m)*((jo n d l s).2.i-s.i)
 arrow:∀d s,s.ok→xS m s→6*s.rem+5≤n→((bU n d s).2.bad=false→GT (bU n d s).1)∧wtT (bU n d s).1≤16+(80+m)*((bU n d s).2.i-s.i)
 plain:∀d s,s.ok→xS m s→6*s.rem+4≤n→((dU n d s).2.bad=false→GT (dU n d s).1)∧wtT (dU n d s).1≤16+(80+m)*((dU n d s).2.i-s.i)
 fields:∀d o s,s.ok→xS m s→6*s.rem+8≤n→(∃ns l,o=.mk 5 [] ns l)→((dh n d o s).2.bad=false→(∃ns l,o=.mk 5 [] ns l∧ns.Pairwise (· < ·)∧ns.length=l.length∧(∀n∈ns,jM n)∧∀t∈l,GT t)→GT (dh n d o s).1)∧wtT (dh n d o s).1≤wtT o+(80+m)*((dh n d o s).2.i-s.i)
theorem x9 :wtT jY=16:=rfl
theorem Aw {c a b:Nat} (h:a≤b):c*a≤c*b:=Nat.mul_le_mul_left _ h
theorem Fz (m:Nat):∀n,GoodR m n:=fun n=>by
 induction n with
 |zero=>exact⟨fun d s _ _ h=>by omega,fun d l s _ _ h=>by omega,fun d s _ _ h=>by omega,fun d s _ _ h=>by omega,fun d o s _ _ h=>by omega⟩
 |succ n ih=>
  obtain⟨l1,l2,l3,l4,l5⟩:=bL n;refine⟨fun d s hs hg hf=>?_,fun d l s hs hg hf=>?_,fun d s hs hg hf=>?_,fun d s hs hg hf=>?_,fun d o s hs hg hf ho=>?_⟩
  ·rw[bJ]
   have hle:s.le (if 64<d then cZ s 3 else s):=by
    split
    ·exact kQ hs 3
    ·exact RS.le.refl hs
   have hi:(if 64<d then cZ s 3 else s).i=s.i:=by
    split
    ·unfold cZ;split<;>rfl
    ·rfl
   generalize (if 64<d then cZ s 3 else s)=s1 at hle hi⊢;have hs1:=hs.of hle;have hg1:=hg.le hle;have hr1:s1.rem=s.rem:=by unfold RS.rem;rw[hi,hle.toks]
   split
   ·rename_i hb
    exact⟨fun h=>absurd hb (by rw[h];simp),by rw[x9];omega⟩
   ·rename_i hb
    obtain⟨k1,k2⟩:=ih.arrow d s1 hs1 hg1 (by omega);have hla:=l3 d s1 hs1;generalize bU n d s1=q at k1 k2 hla⊢;obtain⟨a,s2⟩:=q;dsimp only at k1 k2 hla⊢;have hs2:=hs1.of hla;have hr2:s2.rem≤s1.rem:=hla.rem;split
    ·rename_i hbar
     obtain⟨j1,j2,j3⟩:=ih.alts d [a] s2 hs2 (hg1.le hla) (by omega);have hlb:=l2 d [a] s2 hs2;generalize jo n d [a] s2=q2 at j1 j2 j3 hlb⊢;obtain⟨al,s3⟩:=q2;dsimp only at j1 j2 j3 hlb⊢;have hb2:s2.bad=false:=by unfold isR at hbar;cases h:s2.bad<;>simp[h]at hbar⊢
     refine⟨fun h=>.uni al (j2 (by simp)) (j1 h fun t ht=>by rw[List.mem_singleton]at ht;subst ht;exact k1 hb2),?_⟩;have hia:=hla.i;have hib:=hlb.i;rw[wtT];rw[wtL,wtL]at j3;simp only[List.length_nil,List.map_nil,List.sum_nil];have e1:(80+m)*(s3.i-s.i)=(80+m)*(s2.i-s1.i)+(80+m)*(s3.i-s2.i):=by rw[←Nat.mul_add];congr 1;omega
     rw[e1];omega
    ·refine⟨k1,?_⟩
     rw[hi]at k2;dsimp only;omega
  ·rw[jo]
   split
   ·rename_i hbar
    have zQ:=eO hs hbar;have hlt:=aM hs mg;have hst:=hs.of hlt;have hyes:=jI hbar;obtain⟨k1,k2⟩:=ih.arrow d (aD s mg) hst (hg.le hlt) (by omega);have hla:=l3 d (aD s mg) hst;have hib:(aD s mg).i=s.i+1:=by rw[hyes]
    have hab:=@Qy n d (aD s mg);generalize aD s mg=s1 at*;generalize bU n d s1=q at k1 k2 hla hab⊢;obtain⟨a,s2⟩:=q;dsimp only at k1 k2 hla hab⊢;have hs2:=hst.of hla;have hr2:s2.rem≤s1.rem:=hla.rem;obtain⟨j1,j2,j3⟩:=ih.alts d (l ++[a]) s2 hs2 ((hg.le hlt).le hla) (by omega);have hlb:=l2 d (l ++[a]) s2 hs2;have hbd:=@Uy n d (l ++[a]) s2;generalize jo n d (l ++[a]) s2=q2 at j1 j2 j3 hlb hbd⊢;obtain⟨al,s3⟩:=q2;dsimp only at j1 j2 j3 hlb hbd⊢;refine⟨fun h hl=>j1 h fun t ht=>?_,fun _=>j2 (by simp),?_⟩
    ·rcases List.mem_append.1 ht with ht|ht
     ·exact hl t ht
     ·rw[List.mem_singleton]at ht;subst ht;exact k1 (hbd h)
    ·rw[xg,wtL,wtL]at j3
     have h1:=hla.i;have h2:=hlb.i
     have e1:(80+m)*(s3.i-s.i)=(80+m)+((80+m)*(s2.i-s1.i)+(80+m)*(s3.i-s2.i)):=by
      rw[←Nat.mul_add];have:s3.i-s.i=1+(s2.i-s1.i+(s3.i-s2.i)):=by omega
      rw[this,Nat.mul_add,Nat.mul_one]
     rw[e1];omega
   ·exact⟨fun _ h=>h,fun h=>h,by dsimp only;omega⟩
  ·rw[bU]
   obtain⟨k1,k2⟩:=ih.plain d s hs hg (by omega);have hla:=l4 d s hs;generalize dU n d s=q at k1 k2 hla⊢;obtain⟨a,s1⟩:=q;dsimp only at k1 k2 hla⊢;have hs1:=hs.of hla;have hr1:s1.rem≤s.rem:=hla.rem;split
   ·rename_i harr
    have hb1:s1.bad=false:=by unfold isR at harr;cases h:s1.bad<;>simp[h]at harr⊢
    have hlt:=aM hs1 qy;have hst:=hs1.of hlt;have zQ:=eO hs1 harr;have hyes:=jI harr;have hib:(aD s1 qy).i=s1.i+1:=by rw[hyes]
    split
    ·have hgl:=kQ hst 3
     refine⟨fun h=>?_,?_⟩
     ·exfalso
      have:(aD s1 qy).bad=false:=by rw[hyes];exact hb1
      unfold cZ at h;rw[if_neg (by rw[this];simp)]at h;cases h
     ·have h1:=hgl.i
      have h2:=hla.i;have:=Aw (c:=80+m) (show s1.i-s.i≤(cZ (aD s1 qy) 3).i-s.i by omega);dsimp only;omega
    ·obtain⟨j1,j2⟩:=ih.arrow (d+1) (aD s1 qy) hst ((hg.le hla).le hlt) (by omega)
     have hlb:=l3 (d+1) (aD s1 qy) hst;generalize aD s1 qy=s2 at*;generalize bU n (d+1) s2=q2 at j1 j2 hlb⊢;obtain⟨b,s3⟩:=q2;dsimp only at j1 j2 hlb⊢;refine⟨fun h=>.fn a b (k1 hb1) (j1 h),?_⟩;have h1:=hla.i;have h2:=hlb.i;rw[wtT,wtL,wtL,wtL];simp only[List.length_nil,List.map_nil,List.sum_nil]
     have e1:(80+m)*(s3.i-s.i)=(80+m)+((80+m)*(s1.i-s.i)+(80+m)*(s3.i-s2.i)):=by
      rw[←Nat.mul_add];have:s3.i-s.i=1+(s1.i-s.i+(s3.i-s2.i)):=by omega
      rw[this,Nat.mul_add,Nat.mul_one]
     rw[e1];omega
   ·exact⟨k1,k2⟩
  ·rw[dU]
   have htk:=Na hs hg;have hone:∀(w:Bytes) (t:TA),isR s w=true→GT t→wtT t=16→((t,aD s w).2.bad=false→GT (t,aD s w).1)∧wtT (t,aD s w).1≤16+(80+m)*((t,aD s w).2.i-s.i):=fun w t _ hg hw=>⟨fun _=>hg,by dsimp only;omega⟩
   split
   ·rename_i hb
    exact⟨fun h=>absurd hb (by rw[h];simp),by rw[x9];omega⟩
   split
   ·rename_i hk
    refine⟨fun _=>.ref _ (htk.1 hk),?_⟩;rw[wtT];simp only[List.map_nil,List.sum_nil,wtL,Nat.add_sub_cancel_left,Nat.mul_one];have:=htk.2;omega
   split
   ·rename_i h;exact hone _ _ h .int rfl
   split
   ·rename_i h;exact hone _ _ h .bool rfl
   split
   ·rename_i h;exact hone _ _ h .text rfl
   split
   ·rename_i h;exact hone _ _ h .dyn rfl
   split
   ·rename_i h
    have hlt:=aM hs kLb;have zQ:=eO hs h;have hst:=hs.of hlt;obtain⟨j1,j2⟩:=ih.fields d (.mk 5 [] [] []) (aD s kLb) hst (hg.le hlt) (by omega) ⟨_,_,rfl⟩;have hlb:=l5 d (.mk 5 [] [] []) (aD s kLb) hst;refine⟨fun hb=>j1 hb ⟨[],[],rfl,by simp,rfl,fun n hn=>(by cases hn),fun t ht=>(by cases ht)⟩,?_⟩;have h0:wtT (.mk 5 [] [] [])=16:=rfl;have h1:=hlt.i;have:=Aw (c:=80+m) (show(dh n d (.mk 5 [] [] []) (aD s kLb)).2.i-(aD s kLb).i≤(dh n d (.mk 5 [] [] []) (aD s kLb)).2.i-s.i by omega);omega
   split
   ·rename_i hb
    exact⟨fun h=>absurd hb (by rw[h];simp),by rw[x9];omega⟩
   ·rename_i hb
    have hb:(aD s kLp).bad=false:=by simpa using hb
    obtain⟨hb0,his,hyes⟩:=jc hb;have hlt:=aM hs kLp;have zQ:=eO hs his;have hst:=hs.of hlt;have hib:(aD s kLp).i=s.i+1:=by rw[hyes]
    obtain⟨j1,j2⟩:=ih.typ (d+1) (aD s kLp) hst (hg.le hlt) (by omega);have hlb:=l1 (d+1) (aD s kLp) hst;have hlc:=aM (hst.of hlb) kRp;refine⟨fun h=>j1 (jc h).1,?_⟩;have h1:=hlb.i;have h2:=hlc.i;generalize aD s kLp=s1 at*;generalize bJ n (d+1) s1=q at*;dsimp only;have e1:=Aw (c:=80+m) (show(q.2.i-s1.i)+1≤(aD q.2 kRp).i-s.i by omega);rw[Nat.mul_add,Nat.mul_one]at e1;omega
  ·obtain⟨ns,l,rfl⟩:=ho
   rw[dh];split
   ·rename_i hcond
    split
    ·rename_i hb
     exact⟨fun h=>absurd hb (by rw[h];simp),by rw[x9];have:=BP (.mk 5 [] ns l);omega⟩
    ·rename_i hb
     have hb:(aD (aK s).2 aQ).bad=false:=by simpa using hb
     have hln:=bT hs;have hlt:=hln.trans (aM (hs.of hln) aQ);have hst:=hs.of hlt;have zQ:=su hs aQ hb;obtain⟨h3,h4,h5⟩:=jc hb;obtain⟨h6,h7,h8⟩:=pW h3;have hnm:jM (aK s).1.text∧(aK s).1.text.length≤m:=by rw[h8];exact⟨(Na hs hg).1 h7,(Na hs hg).2⟩
     have hi2:(aD (aK s).2 aQ).i=s.i+2:=by rw[h5,h8]
     split
     ·have k1:=lu hs aQ hb
      have hg1:=hg.le k1;have hs1:=hs.of k1;have hrr:(gF (aD (aK s).2 aQ) (aK s).1).rem=(aD (aK s).2 aQ).rem:=rfl;have hii:(gF (aD (aK s).2 aQ) (aK s).1).i=(aD (aK s).2 aQ).i:=rfl;have k2:=l1 (d+1) _ hs1;have k3:=gX (hs1.of k2);have r2:=k2.rem;have r3:=k3.rem;obtain⟨j1,j2⟩:=ih.fields d (.mk 5 [] ns l) _ ((hs1.of k2).of k3) ((hg1.le k2).le k3) (by omega) ⟨_,_,rfl⟩;refine⟨j1,?_⟩;have k4:=l5 d (.mk 5 [] ns l) _ ((hs1.of k2).of k3);have e0:=k2.i;have e1:=k3.i;have e2:=k4.i;have:=Aw (c:=80+m) (show(dh n d (.mk 5 [] ns l) (fB (bJ n (d+1) (gF (aD (aK s).2 aQ) (aK s).1)).2)).2.i-(fB (bJ n (d+1) (gF (aD (aK s).2 aQ) (aK s).1)).2).i≤(dh n d (.mk 5 [] ns l) (fB (bJ n (d+1) (gF (aD (aK s).2 aQ) (aK s).1)).2)).2.i-s.i by omega);omega
     ·rename_i hnot
      have hnot:(aK s).1.text∉ns:=JV (by simpa[TA.names]using hnot);have hg1:=hg.le hlt;have k2:=l1 (d+1) _ hst;have k3:=gX (hst.of k2);have r2:=k2.rem;have r3:=k3.rem;obtain⟨t1,t2⟩:=ih.typ (d+1) _ hst hg1 (by omega);simp only[TA.names,TA.l];generalize aD (aK s).2 aQ=s1 at*;generalize (aK s).1.text=nm at*;generalize bJ n (d+1) s1=q at*;obtain⟨t,s2⟩:=q;dsimp only at*;have hc0:=@Ql s2;generalize fB s2=s3 at*;obtain⟨j1,j2⟩:=ih.fields d (.mk 5 [] (jX ns (l9 ns nm) nm) (jX l (l9 ns nm) t)) s3 ((hst.of k2).of k3) ((hg1.le k2).le k3) (by omega) ⟨_,_,rfl⟩;have k4:=l5 d (.mk 5 [] (jX ns (l9 ns nm) nm) (jX l (l9 ns nm) t)) s3 ((hst.of k2).of k3);have hfb:=@MG n d (.mk 5 [] (jX ns (l9 ns nm) nm) (jX l (l9 ns nm) t)) s3;generalize dh n d (.mk 5 [] (jX ns (l9 ns nm) nm) (jX l (l9 ns nm) t)) s3=q2 at*
      refine⟨fun h ⟨ns',l',e,p1,p2,p3,p4⟩=>?_,?_⟩
      ·cases e
       refine j1 h ⟨_,_,rfl,Mj p1 hnot,?_,fun n hn=>?_,fun x hx=>?_⟩
       ·rw[yQ,yQ,p2]
       ·rcases NM hn with rfl|hn
        ·exact hnm.1
        ·exact p3 n hn
       ·rcases NM hx with rfl|hx
        ·exact t1 (hc0 (hfb h))
        ·exact p4 x hx
      ·rw[wtT,sj,NK,NK,←sj]at j2
       rw[wtT];have e0:=k2.i;have e1:=k3.i;have e2:=k4.i;have hm:=hnm.2
       have e3:(80+m)*(q2.2.i-s.i)≥(80+m)*2+((80+m)*(s2.i-s1.i)+(80+m)*(q2.2.i-s3.i)):=by
        rw[←Nat.mul_add,←Nat.mul_add];exact Aw (by omega)
       omega
   ·refine⟨fun h ⟨ns',l',e,p1,p2,p3,p4⟩=>?_,by dsimp only;omega⟩
    cases e;exact .rcd ns l p1 p2 p3 p4
end Go.Ag
/- Types of a source: good, and not much. -/
namespace Go.Ag
open Go
theorem QY {p:UInt8→Bool} {src:Bytes} {k:Nat}:∀c∈j6 src k (iI p src k),p c=true:=by
 intro c hc;unfold j6 iI at hc
 have h1:((src.take (k+((src.drop k).takeWhile p).length)).drop k)=(src.drop k).takeWhile p:=by
  rw[List.drop_take,Nat.add_sub_cancel_left];generalize src.drop k=l;have h2:l=l.takeWhile p ++l.dropWhile p:=List.takeWhile_append_dropWhile.symm;conv=>lhs;arg 2;rw[h2]
  rw[List.take_left]
 rw[h1]at hc;exact L6 hc
theorem GZ {src:Bytes} {k:Nat} {c:UInt8} (h:src[k]?=some c):∀t∈(bg src k c).2.1,t.kind=1→jM t.text:=by
 have hne:=wT h
 have no:∀{n:Int} {a:Int} {x:Bytes},n≠1→∀t∈[(⟨n,a,x⟩:dB)],t.kind=1→jM t.text:=fun hn t ht hk=>by
  simp only[List.mem_singleton]at ht;subst ht;exact absurd hk hn
 have nil:∀t∈([]:List dB),t.kind=1→jM t.text:=fun t ht=>by cases ht
 unfold bg at hne⊢;split at hne
 ·rename_i h1;rw[if_pos h1];exact nil
 rename_i h1;rw[if_neg h1];split at hne
 ·rename_i h2;rw[if_pos h2];exact nil
 rename_i h2;rw[if_neg h2];split at hne
 ·rename_i h3
  rw[if_pos h3];intro t ht hk;have hne:=hne t ht hk;simp only[List.mem_singleton]at ht;subst ht;dsimp only at hk hne⊢
  have hw:qB (j6 src k (bS src k bV))=false:=by
   cases hw:qB (j6 src k (bS src k bV))
   ·rfl
   ·rw[hw,if_pos rfl]at hk;cases hk
  have hn:∀w∈eZ,j6 src k (bS src k bV)≠w:=fun w hm e=>by
   unfold qB at hw;rw[List.any_eq_false]at hw;exact hw w hm (by rw[e];simp)
  exact⟨hne,QY (p:=(inA · bV)),hn G6 (by decide),hn yP (by decide),hn yO (by decide)⟩
 rename_i h3;rw[if_neg h3];clear hne;split
 ·split
  ·exact no (by decide)
  ·exact no (by decide)
 split
 ·split
  ·exact no (by decide)
  ·exact nil
 split
 ·exact no (by decide)
 split
 ·exact no (by decide)
 ·exact nil
theorem CU (src:Bytes):∀(n k:Nat) (l:List dB) (d:List bM),(∀t∈l,t.kind=1→jM t.text)→∀t∈(iL src n k l d).1,t.kind=1→jM t.text
 |0,k,l,d,h=>h
 |n+1,k,l,d,h=>by
  rw[iL];split
  ·rename_i c hc
   refine CU src n _ _ _ fun t ht=>?_
   rcases List.mem_append.1 ht with ht|ht
   ·exact h t ht
   ·exact GZ hc t ht
  ·exact h
theorem Ch (src:Bytes):xS (src.length+2) (bD src):=by
 intro t ht;have h1:∀t∈(iL src src.length 0 [] []).1,t.kind=1→jM t.text:=CU src src.length 0 [] [] fun t ht=>by cases ht
 have h2:=(uR src src.length 0 [] [] 0 (by simp) (by simp) (fun t ht=>by cases ht)).2.2;have ht:t∈(iL src src.length 0 [] []).1 ++[⟨6,src.length,[]⟩]:=ht;rcases List.mem_append.1 ht with ht|ht
 ·exact⟨h1 t ht,h2 t ht⟩
 ·simp only[List.mem_singleton]at ht
  subst ht;exact⟨fun h=>absurd (show(6:Int)=1 from h) (by decide),by simp⟩
theorem BU (src:Bytes) (hs:src.length≤2^31) (h:(iZ src).2=true):GT (iZ src).1∧wtT (iZ src).1≤48+(src.length+82)*(src.length+1):=by
 obtain⟨hok,hlen,_⟩:=mE src (by omega);have hg:=(Fz (src.length+2) (lg src)).typ 1 (bD src) hok (Ch src) (by unfold lg;omega);have hle:=(bL (lg src)).1 1 (bD src) hok;unfold iZ at h⊢;unfold Et at h⊢;generalize bJ (lg src) 1 (bD src)=q at hg hle h⊢;cases hj:tT q.2
 ·rw[hj,if_neg (by simp)]at h
  cases h
 ·rw[if_pos rfl]
  have hb:q.2.bad=false:=by
   unfold tT at hj;cases hb:q.2.bad
   ·rfl
   ·rw[hb]at hj;cases hj
  refine⟨hg.1 hb,Nat.le_trans hg.2 ?_⟩;have h1:=hle.lt;have h2:=Aw (c:=src.length+82) (show q.2.i-(bD src).i≤src.length+1 by omega);have h3:80+(src.length+2)=src.length+82:=by omega
  rw[h3];omega
end Go.Ag
/- Abstract codes, printed by a program of ours (acode.py) out of the given program's form. -/
namespace Go.Ag
open Go
end Go.Ag
/- Package cupellaw09: typ, alive, list. -/
namespace Go.Ag
open Go
variable {T : Tab} {L : Lnk}
end Go.Ag
/- Package cupellaw09: alive. -/
namespace Go.Ag
open Go
variable {T : Tab} {L : Lnk}
theorem aC.M7 {f:Nat} {args args':List au} {H:Heap} {Q:fF→Heap→Prop} (h:aC L f args' H Q) (hw:mW L args args'):aC L f args H Q:=fun g w vs hs hr=>h g w vs hs (hr.weak hw)
structure zm (e:d9) (H:Heap) (a:Nat):Prop where
 h0:H[a]?=some (.map (bZ e.by_ 0) e.by_.length)
 h1:H[a+1]?=some (.map (gH e.empty 0) e.empty.length)
 h2:H[a+2]?=some (.cells [.map a,.map (a+1)] 234)
theorem EK.any {f:Nat} {args:List au} {e:d9} {y:au} (h:EK L f args e y) (ha:∀x∈args,Low 0 x) (hy:Low 0 y) {H:Heap} {a:Nat} (hA:zm e H a) {K KP:au→Heap→Prop} (hk:K y H):aC L f (.ptr (a+2) 0::args) H (dJ K KP):=by
 have hp:Part H [a,a+1,a+2] (kH e):=by
  refine⟨by simp,rfl,fun k i o hk ho=>?_⟩
  match k,hk,ho with
  |0,hk,ho=>cases hk;cases ho;rw[eG (show bF 0 (.map (bZ e.by_ 0) e.by_.length)from fC 0 _ _)];exact hA.h0
  |1,hk,ho=>cases hk;cases ho;rw[eG (show bF 0 (.map (gH e.empty 0) e.empty.length)from gG 0 _ _)];exact hA.h1
  |2,hk,ho=>cases hk;cases ho;exact hA.h2
  |k+3,hk,ho=>cases hk
 have hf:=aC.Sn (y':=y) (args':=.ptr (a+2) 0::args) h (fun o ho=>by
  simp only[kH,List.mem_cons,List.not_mem_nil,or_false]at ho
  rcases ho with rfl|rfl|rfl<;>rfl) [a,a+1,a+2] hp (by
  rw[List.map_cons];have:args.map (ren (nameOf [a,a+1,a+2] H.length))=args:=(List.map_congr_left (g:=id) fun x hx=>ku (ha x hx)).trans (List.map_id _)
  rw[this];rfl) (ku hy)
 exact hf.to1 hk
theorem UM (F:zq T) (l:List (Bytes×TA)) (hl:l.length≤2^30) (hok:∀p∈l,okN p.2) (hE:∀p∈jh l,wtT p.2≤2^40) (tk:Tok) (H:Heap):
  aC T.L 144 [.lst (gy l) tk] H fun r H'=>∃e,l7 (jh l) e∧r=.ret (.ptr (H.length+2) 0)∧H'=H ++[.map (bZ e.by_ 0) e.by_.length,.map (gH e.empty 0) e.empty.length,.cells [.map H.length,.map (H.length+1)] 234]:=by
 have h:=UL F l hl hok hE (fun p hp=>MO _ _ _);have hp:Part H [] []:=⟨by simp,rfl,fun k i o hk=>by cases hk⟩;have hf:=aC.nD h [] hp (.inr fun r H' _=>Nat.zero_le _)
 have hargs:[au.lst (gy l) .none].map (ren (nameOf [] H.length))=[.lst (gy l) .none]:=by
  rw[List.map_cons,List.map_nil,ku (show Low 0 (au.lst (gy l) .none)from .lst _ _ trivial (rR 0 l))]
 rw[hargs]at hf;refine(hf.mono fun r H' ⟨r1,H1,⟨e,h1,h2,h3⟩,_,h4,h5⟩=>⟨e,h1,?_,?_⟩).M7 ⟨Weak.tok _ _,trivial⟩
 ·rw[h4,h2]
  simp only[zB,ren];rw[jE (Nat.zero_le _)];rfl
 ·rw[h5,h3]
  simp only[List.length_nil,List.take_zero,List.map_nil,List.drop_zero,l8]
  congr 1
  simp only[kH,List.map_cons,List.map_nil];rw[eG (show bF 0 (.map (bZ e.by_ 0) e.by_.length)from fC 0 _ _),eG (show bF 0 (.map (gH e.empty 0) e.empty.length)from gG 0 _ _)];simp only[jA,iG,ren];rw[jE (Nat.zero_le _),jE (Nat.zero_le _)];rfl
theorem g97 :jM [97]:=⟨by decide,by decide,by decide,by decide,by decide⟩
theorem g98 :jM [98]:=⟨by decide,by decide,by decide,by decide,by decide⟩
theorem Mw {a b:TA} (ha:GT a) (hb:GT b):∀t∈[a,b],GT t:=fun t ht=>by
 simp only[List.mem_cons,List.not_mem_nil,or_false]at ht;rcases ht with rfl|rfl
 ·exact ha
 ·exact hb
theorem gc_of {bs:List TA} {t:TA} (h:GT t) (hw:wtT t≤2^30) (hm:aU t∈bs):GC' (bs.flatMap iO) t:=⟨h,hw,List.mem_flatMap.2 ⟨_,hm,ru _⟩⟩
end Go.Ag
/- Expressions that are read are small. -/
namespace Go.Ag
open Go
mutual
def EA.small :EA→Prop
 |.mk _ _ _ _ _ l _=>l.length≤2^34∧EA.smalls l
def EA.smalls :List EA→Prop
 |[]=>True
 |x::l=>x.small∧EA.smalls l
end
theorem Li {a:List EA} {x:EA} (h:EA.smalls a) (hx:x.small):EA.smalls (a ++[x]):=by
 induction a with
 |nil=>exact⟨hx,trivial⟩
 |cons y a ih=>exact⟨h.1,ih h.2⟩
theorem fH :zeroE.small:=⟨by simp,trivial⟩
theorem Cn (k p:Int) (nm:Bytes) (m:Int) (ns:List Bytes) (ts:List TA):(EA.mk k p nm m ns [] ts).small:=⟨by simp,trivial⟩
theorem Lj {k p:Int} {nm:Bytes} {m:Int} {ns:List Bytes} {ts:List TA} {a:EA} (h:a.small):(EA.mk k p nm m ns [a] ts).small:=⟨by simp,h,trivial⟩
theorem QZ {k p:Int} {nm:Bytes} {m:Int} {ns:List Bytes} {ts:List TA} {a b:EA} (h:a.small) (h':b.small):(EA.mk k p nm m ns [a,b] ts).small:=⟨by simp,h,h',trivial⟩
theorem XR {k p:Int} {nm:Bytes} {m:Int} {ns:List Bytes} {ts:List TA} {a b c:EA} (h:a.small) (h':b.small) (h'':c.small):(EA.mk k p nm m ns [a,b,c] ts).small:=⟨by simp,h,h',h'',trivial⟩
structure SmEx (n:Nat):Prop where
 expr:∀(d:Nat) (s:RS),s.ok→(bY n d s).1.small
 fn:∀(d:Nat) (a:Int) (p:dB×RS),p.2.ok→(Bl n d a p).1.small
 lt:∀(d:Nat) (a:Int) (p:dB×RS),p.2.ok→(Bh n d a p).1.small
 ie:∀(d:Nat) (a:Int) (s:RS),s.ok→(ifR n d a s).1.small
 el:∀(d:Nat) (a:Int) (x:EA) (q:EA×RS),q.2.ok→x.small→q.1.small→(tV n d a x q).1.small
 post:∀(d:Nat) (x:EA) (s:RS),s.ok→x.small→(lX n d x s).1.small
 basic:∀(d:Nat) (s:RS),s.ok→(fE n d s).1.small
 as_:∀(d:Nat) (a:Int) (q:EA×RS),q.2.ok→q.1.small→(asR n d a q).1.small
 fields:∀(d:Nat) (a:Int) (names:List Bytes) (l:List EA) (s:RS),s.ok→EA.smalls l→l.length+s.rem≤2^34→(fD n d a names l s).1.small
theorem Q0 :∀n:Nat,SmEx n:=by
 intro n
 induction n with
 |zero=>exact⟨fun d s h=>by unfold bY;exact fH,fun d a p h=>by unfold Bl;exact fH,fun d a p h=>by unfold Bh;exact fH,fun d a s h=>by unfold ifR;exact fH,fun d a x q h _ _=>by unfold tV;exact fH,fun d x s h hx=>by unfold lX;exact hx,fun d s h=>by unfold fE;exact fH,fun d a q h _=>by unfold asR;exact fH,fun d a ns l s h _ _=>by unfold fD;exact fH⟩
 |succ n ih=>
  have le:=gq n;have ty:=fun(d:Nat) (s:RS) (h:s.ok)=>h.of ((bL n).1 d s h)
  have tk:=fun(s:RS) (h:s.ok) (w:Bytes)=>h.of (aM h w)
  have nm:=fun(s:RS) (h:s.ok)=>h.of (bT h)
  have ex:=fun(d:Nat) (s:RS) (h:s.ok)=>h.of (le.expr d s h)
  refine⟨fun d s h=>?_,fun d a p h=>?_,fun d a p h=>?_,fun d a s h=>?_,fun d a x q h hx hq=>?_,fun d x s h hx=>?_,fun d s h=>?_,fun d a q h hq=>?_,fun d a ns l s h hl hll=>?_⟩
  ·have ho:=h.of (N7 (d:=d) h)
   unfold bY;generalize jU d s=s1 at ho⊢;split
   ·exact fH
   ·split
    ·exact ih.fn _ _ _ (nm _ (tk _ (tk _ ho _) _))
    ·split
     ·exact ih.lt _ _ _ (nm _ (tk _ ho _))
     ·split
      ·exact ih.ie _ _ _ (tk _ ho _)
      ·exact ih.post _ _ _ (ho.of (le.basic d s1 ho)) (ih.basic d s1 ho)
  ·unfold Bl
   split
   ·exact fH
   ·split
    ·exact fH
    ·exact Lj (ih.expr _ _ (tk _ (ty _ _ (tk _ h _)) _))
  ·unfold Bh
   exact QZ (ih.expr _ _ (tk _ h _)) (ih.expr _ _ (tk _ (ex _ _ (tk _ h _)) _))
  ·unfold ifR
   exact ih.el _ _ _ _ (ex _ _ (tk _ (ex _ _ h) _)) (ih.expr _ _ h) (ih.expr _ _ (tk _ (ex _ _ h) _))
  ·unfold tV
   exact XR hx hq (ih.expr _ _ (tk _ h _))
  ·unfold lX
   split
   ·exact ih.post _ _ _ (tk _ (ex _ _ (tk _ h _)) _) (QZ hx (ih.expr _ _ (tk _ h _)))
   ·split
    ·exact ih.post _ _ _ (nm _ (tk _ h _)) (Lj hx)
    ·exact hx
  ·unfold fE
   split
   ·exact fH
   ·split
    ·exact Cn _ _ _ _ _ _
    ·split
     ·exact Cn _ _ _ _ _ _
     ·split
      ·exact Cn _ _ _ _ _ _
      ·split
       ·exact Cn _ _ _ _ _ _
       ·split
        ·exact Cn _ _ _ _ _ _
        ·split
         ·refine ih.fields _ _ _ _ _ (tk _ h _) trivial ?_
          have h1:=(aM h kLb).rem;have h2:=h.len;unfold RS.rem at*;simp;omega
         ·split
          ·exact fH
          ·exact ih.as_ _ _ _ (ex _ _ (tk _ h _)) (ih.expr _ _ (tk _ h _))
  ·rw[asR]
   split
   ·exact Lj hq
   ·exact hq
  ·unfold fD
   split
   ·split
    ·exact fH
    ·rename_i hb
     have hb:(aD (aK s).2 kEq).bad=false:=by simpa using hb
     have hr:=su h kEq hb;have ok2:=tk _ (nm _ h) kEq;split
     ·have k1:=h.of (lu h kEq hb)
      have k2:=ex (d+1) _ k1;refine ih.fields _ _ _ _ _ (k2.of (gX k2)) hl ?_;have e1:=(gX k2).rem;have e2:=(le.expr (d+1) _ k1).rem;have e3:(gF (aD (aK s).2 kEq) (aK s).1).rem=(aD (aK s).2 kEq).rem:=rfl;omega
     ·have k2:=ex (d+1) _ ok2
      refine ih.fields _ _ _ _ _ (k2.of (gX k2)) (Li hl (ih.expr _ _ ok2)) ?_;have e1:=(gX k2).rem;have e2:=(le.expr (d+1) _ ok2).rem;simp;omega
   ·exact⟨by omega,hl⟩
def dV.small (d:dV):Prop:=d.es.length≤1∧EA.smalls d.es
theorem ML {n:Nat} {s:RS} (hs:s.ok):(fK n s).1.small:=by
 have ty:=fun(d:Nat) (s:RS) (h:s.ok)=>h.of ((bL n).1 d s h)
 have tk:=fun(s:RS) (h:s.ok) (w:Bytes)=>h.of (aM h w)
 have nm:=fun(s:RS) (h:s.ok)=>h.of (bT h)
 have hE:∀(t:dB) (ts:List TA) (s:RS),s.ok→(tX n t ts s).1.small:=fun t ts s hs=>⟨by simp[tX],(Q0 n).expr _ _ (tk _ hs _),trivial⟩
 unfold fK;split
 ·exact⟨by simp[Kt],trivial⟩
 ·split
  ·exact⟨by simp[declT],trivial⟩
  ·split
   ·unfold AY
    split
    ·exact hE _ _ _ (ty _ _ (tk _ (nm _ (tk _ hs _)) _))
    ·exact hE _ _ _ (nm _ (tk _ hs _))
   ·exact⟨by simp,trivial⟩
theorem nK (n:Nat):∀(k:Nat) (l:List dV) (s:RS),s.okN k→s.bad=false→s.rem≤k→(∀d∈l,d.small)→(∀d∈(jB n k l s).1,d.small)∧(jB n k l s).1.length≤l.length+k
 |0,l,s,h,hb,hr,hl=>⟨hl,by simp[jB]⟩
 |k+1,l,s,h,hb,hr,hl=>by
  rw[jB];split
  ·rename_i hk
   have hrr:=vI (n:=n) h hb (by simpa using hk);split
   ·rename_i hb2
    obtain⟨k1,k2,k3⟩:=hrr.2 hb2;have:=nK n k l _ k1 k3 (by omega) hl;exact⟨this.1,by omega⟩
   ·rename_i hb2
    obtain⟨k1,k2⟩:=hrr.1 (by simpa using hb2)
    have:=nK n k (l ++[(fK n s).1]) _ k1 (by simpa using hb2) (by omega) (fun d hd=>by
     rcases List.mem_append.1 hd with hd|hd
     ·exact hl d hd
     ·simp only[List.mem_singleton]at hd;subst hd;exact ML h.ok)
    exact⟨this.1,by have:=this.2;simp at this;omega⟩
  ·exact⟨hl,by simp⟩
theorem Jh (src:Bytes) (hs:src.length≤2^32):(∀d∈(gK src).1,d.small)∧(gK src).1.length≤2^33:=by
 obtain⟨hok,hlen,hdl⟩:=mE src hs;have zQ:(bD src).rem≤src.length+1:=by unfold RS.rem;omega
 have hp:(bD src).pot≤(bD src).diags.length+2*(bD src).toks.length+1:=by
  unfold RS.pot;split<;>omega
 have:=nK (og src) (bD src).rem [] (bD src) ⟨hok.lt,hok.more,hok.len,hok.txt,by omega,hok.named,hok.num⟩ rfl (Nat.le_refl _) (fun d hd=>by cases hd);exact⟨this.1,by have:=this.2;simp at this;unfold gK;omega⟩
end Go.Ag
/- Declarations of a source: types of its definitions are good and small; cupellaw08.Small, Made. -/
namespace Go.Ag
open Go
variable {T : Tab} {L : Lnk}
def KW (B:Nat) (d:dV):Prop:=d.kind=2→jM d.name∧∃t,d.ts=[t]∧GT t∧wtT t≤B
theorem Qk {m n:Nat} {s:RS} (hs:s.ok) (hg:xS m s) (hb:s.bad=false) (hf:6*s.rem+8≤n) (h:(fK n s).2.bad=false):KW (48+(80+m)*s.toks.length) (fK n s).1:=by
 have E:∀(t:dB) (ts:List TA) (s:RS),(tX n t ts s).1.kind≠2:=fun t ts s=>by show(3:Int)≠2;decide
 unfold fK at h⊢;split
 ·exact fun h2=>absurd (show(1:Int)=2 from h2) (by decide)
 ·rename_i h0
  rw[if_neg h0]at h;split
  ·rename_i h1
   rw[if_pos h1]at h;intro _;have k1:=aM hs nA;have hs1:=hs.of k1;unfold declT at h⊢;dsimp only at h⊢;have hb4:=(jc h).1
   have hb3:(aD (aK (aD s nA)).2 kEq).bad=false:=by
    cases hx:(aD (aK (aD s nA)).2 kEq).bad
    ·rfl
    ·rw[(rX n).1 _ _ hx,hx]at hb4;cases hb4
   obtain⟨hb2,_,_⟩:=jc hb3;obtain⟨hb1,hk1,hnr⟩:=pW hb2;have k2:=bT hs1;have hs2:=hs1.of k2;have k3:=aM hs2 kEq;have hs3:=hs2.of k3;have r1:=k1.rem;have r2:=k2.rem;have r3:=k3.rem;have hg1:=hg.le k1;have hg3:=(hg1.le k2).le k3;have ht:=(Fz m n).typ 1 _ hs3 hg3 (by omega);have hle:=(bL n).1 1 _ hs3;refine⟨?_,_,rfl,ht.1 hb4,Nat.le_trans ht.2 ?_⟩
   ·rw[hnr]
    exact(Na hs1 hg1).1 hk1
   ·have h1:=hle.lt
    rw[(k1.trans (k2.trans k3)).toks]at h1;exact Nat.add_le_add_left (Aw (by omega)) _
  ·rename_i h1
   split
   ·unfold AY
    split
    ·exact fun h2=>absurd h2 (E _ _ _)
    ·exact fun h2=>absurd h2 (E _ _ _)
   ·exact fun h2=>absurd (show(0:Int)=2 from h2) (by decide)
theorem sS (m n B:Nat) (ts:List dB) (hB:∀s:RS,s.toks=ts→s.ok→xS m s→s.bad=false→6*s.rem+8≤n→(fK n s).2.bad=false→KW B (fK n s).1):∀(k:Nat) (l:List dV) (s:RS),s.toks=ts→s.okN k→xS m s→s.bad=false→6*s.rem+8≤n→s.rem≤k→(∀d∈l,KW B d)→∀d∈(jB n k l s).1,KW B d
 |0,l,s,e,h,hg,hb,hf,hr,hl=>hl
 |k+1,l,s,e,h,hg,hb,hf,hr,hl=>by
  rw[jB];split
  ·rename_i hk
   have hrr:=vI (n:=n) h hb (by simpa using hk);have hle:=Bw (n:=n) h.ok;split
   ·rename_i hb2
    obtain⟨k1,k2,k3⟩:=hrr.2 hb2;have hgood:({(fK n s).2 with bad:=false}:RS).ok:=((h.of hle).good).ok
    have ht:(jf (oI (fK n s).2)).toks=s.toks:=by
     have e1:=(Bp (fK n s).2.rem _ hgood);have e2:=Gp (hgood.of e1);exact(e2.toks.trans e1.toks).trans hle.toks
    exact sS m n B ts hB k l _ (ht.trans e) k1 (by unfold xS;rw[ht];exact hg) k3 (by omega) (by omega) hl
   ·rename_i hb2
    have hb2:(fK n s).2.bad=false:=by simpa using hb2
    obtain⟨k1,k2⟩:=hrr.1 hb2;refine sS m n B ts hB k _ _ (hle.toks.trans e) k1 (hg.le hle) hb2 (by omega) (by omega) fun d hd=>?_
    rcases List.mem_append.1 hd with hd|hd
    ·exact hl d hd
    ·simp only[List.mem_singleton]at hd;subst hd;exact hB s e h.ok hg hb hf hb2
  ·exact hl
theorem CB (src:Bytes) (hs:src.length≤2^31):∀d∈(gK src).1,KW (48+(src.length+82)*(src.length+1)) d:=by
 obtain⟨hok,hlen,hdl⟩:=mE src (by omega);have zQ:(bD src).rem≤src.length+1:=by unfold RS.rem;omega
 have hp:(bD src).pot≤(bD src).diags.length+2*(bD src).toks.length+1:=by
  unfold RS.pot;split<;>omega
 refine sS (src.length+2) (og src) _ (bD src).toks (fun s e h1 h2 h3 h4 h5 h6=>?_) (bD src).rem [] (bD src) rfl ⟨hok.lt,hok.more,hok.len,hok.txt,by omega,hok.named,hok.num⟩ (Ch src) rfl (Nat.le_refl _) (Nat.le_refl _) (fun d hd=>by cases hd);have hd:=Qk h1 h2 h3 h4 h5;rw[e]at hd;refine hd h6|>fun⟨a,t,b,c,d⟩=>⟨a,t,b,c,Nat.le_trans d ?_⟩
 have h2:=Aw (c:=src.length+82) hlen;have h3:80+(src.length+2)=src.length+82:=by omega
 rw[h3];omega
end Go.Ag

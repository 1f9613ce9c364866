/- Our texts, joined by a program of ours (join.py): part 2 of 9. -/
import Derived.Test.YtmjgjmaljdgcpaaGreatDoorTextA
import Derived.Deep.AppendSrc
import Derived.Laws.CopyRow
import Derived.Maps.AppendAt
import Derived.Great.BuildSlice
import Derived.Laws.StructEq
import Derived.Laws.BytesArg
import Derived.MapKept
import Derived.Laws.IdiomRangeMap
import Derived.Lib.UnsafeStr
set_option linter.unusedVariables false
/- The operations that read and write memory. -/
namespace Go.Ag
open Go
open Go.RowKit (Below)
variable {L : Lnk} {g g' : aA} {w w' : World} {H : Heap} {T : Tab} {P : Program}
theorem addr_add (b o n:Nat):(⟨b,o,none⟩:Addr).add n=⟨b,o+n,none⟩:=by unfold Addr.add;split<;>simp_all
theorem vB {v:Value} {x:au} (h:Rep L g v x) (h1:uJ x=true):v.oneCell'=true:=by
 cases h<;>first|rfl|cases h1
theorem sw {vs:List Value} {xs:List au} (h:aX L g vs xs) (h1:xs.all uJ=true):∀v∈vs,v.oneCell'=true:=by
 induction vs generalizing xs with
 |nil=>intro v hv;cases hv
 |cons u vs ih=>
  cases h with
  |cons _ x _ xs h hs=>
   simp only[List.all_cons,Bool.and_eq_true]at h1;intro v hv;rcases List.mem_cons.1 hv with rfl|hv
   ·exact vB h h1.1
   ·exact ih hs h1.2 v hv
theorem pJ {v:Value} {x:au} (h:Rep L g v x) (h1:x.cells.all uJ=true):aX L g v.cells.toList x.cells:=
 h.cells fun e=>by subst e;cases h1
theorem nS (hs:St L g w H) {a:au} {k:Nat} {cs:List au} (h:fI H a k=some cs) {v:Value} (hr:Rep L g v a):
  ∃b o vs,v=.pointer (some ⟨b,o,none⟩)∧vs.length=k∧(∀j u,vs[j]?=some u→w.cell? ⟨b,o+j,none⟩=some u)∧aX L g vs cs:=by
 unfold fI at h;split at h
 ·rename_i id off
  split at h
  ·rename_i cs0 t0 hH
   split at h
   ·rename_i hk
    cases h;obtain⟨s,vs,h1,h2,h3,h4,h5,h6⟩:=hs.obj id _ hH
    cases hr with
    |ptr _ _ s' hs' h0'=>
     rw[hs']at h1;cases h1;have hl:=h4.length;refine⟨s.b,off,(vs.toList.drop off).take k,rfl,?_,fun j u hu=>?_,(h4.drop off).take k⟩
     ·simp only[List.length_take,List.length_drop];omega
     ·rw[List.getElem?_take]at hu
      split at hu
      ·rw[List.getElem?_drop]at hu
       simp only[World.cell?,h3,Option.isSome_none,Bool.false_eq_true,if_false];simpa using hu
      ·cases hu
   ·cases h
  ·cases h
 ·rename_i cs0
  split at h
  ·rename_i hk
   cases h
   cases hr with
   |lZ b o vs _ hf hr'=>
    have hl:=hr'.length;refine⟨b,o,vs.take k,rfl,?_,fun j u hu=>?_,hr'.take k⟩
    ·simp only[List.length_take];omega
    ·rw[List.getElem?_take]at hu
     split at hu
     ·exact hs.fz _ _ _ (hf j u hu)
     ·cases hu
  ·cases h
 ·rename_i id ver off
  split at h
  ·rename_i v xs t0 hH
   split at h
   ·rename_i hk
    cases h;obtain⟨s,vs,h1,h0,h2,h3,h4,h5,h6,h7,h8,h9,h10⟩:=hs.obj id _ hH;obtain⟨rfl,hk⟩:=hk
    cases hr with
    |jv _ _ _ s' hs'=>
     rw[hs']at h1;cases h1;have hl:=h8.length;refine⟨s.b,off,((vs.toList.take (xs.length*s.k)).drop off).take k,rfl,?_,fun j u hu=>?_,(h8.drop off).take k⟩
     ·simp only[List.length_take,List.length_drop]at hl⊢;omega
     ·rw[List.getElem?_take]at hu
      split at hu
      ·rw[List.getElem?_drop,List.getElem?_take]at hu
       split at hu
       ·simp only[World.cell?,h4,Option.isSome_none,Bool.false_eq_true,if_false]
        simpa using hu
       ·cases hu
      ·cases hu
   ·cases h
  ·cases h
 ·cases h
theorem JF {t:TypeId} {i:TypeInfo} {d:TypeDesc} (hu:P.underlying t=some d) (hd:(∃fs,d=.struct fs)∨∃n e,d=.array n e) (hi:P.info? t=some i) (b o:Nat) (vs:List Value) (hl:vs.length=i.size)
  (hc:∀j u,vs[j]?=some u→w.cell? ⟨b,o+j,none⟩=some u):(loadVar t ⟨b,o,none⟩).run P w=.ok (.agg vs.toArray) w:=by
 have h1:(isAgg t).run P w=.ok true w:=by
  unfold isAgg;rw[Sem.run_bind,run_underlying hu];rcases hd with⟨fs,rfl⟩|⟨n,e,rfl⟩<;>rfl
 have h2:(loadCells ⟨b,o,none⟩ i.size).run P w=.ok vs.toArray w:=by
  rw[←hl];exact run_loadCells_list w ⟨b,o,none⟩ vs fun j u hu=>by rw[addr_add];exact hc j u hu
 unfold loadVar;simp[h1,sizeOf,typeInfo,hi,h2]
theorem JE {t:TypeId} {d:TypeDesc} (hu:P.underlying t=some d) (hd:∀fs,d≠.struct fs) (hd':∀n e,d≠.array n e) (b o:Nat) (v:Value)
  (hc:w.cell? ⟨b,o,none⟩=some v):(loadVar t ⟨b,o,none⟩).run P w=.ok v w:=by
 have h1:(isAgg t).run P w=.ok false w:=by
  unfold isAgg;rw[Sem.run_bind,run_underlying hu];cases d<;>first|rfl|exact absurd rfl (hd _)|exact absurd rfl (hd' _ _)
 unfold loadVar;simp[h1,hc]
theorem LC {t k:Nat} (h:T.agg t=some (some k)):∃d i,T.L.P.underlying t=some d∧((∃fs,d=.struct fs)∨∃n e,d=.array n e)∧T.L.P.info? t=some i∧i.size=k:=by
 unfold Tab.agg at h;split at h
 ·rename_i fs i h1 h2;cases h;exact⟨_,i,h1,.inl ⟨_,rfl⟩,h2,rfl⟩
 ·rename_i n e i h1 h2;cases h;exact⟨_,i,h1,.inr ⟨_,_,rfl⟩,h2,rfl⟩
 ·cases h
 ·cases h
theorem LD {t:Nat} (h:T.agg t=some none):∃d,T.L.P.underlying t=some d∧(∀fs,d≠.struct fs)∧∀n e,d≠.array n e:=by
 unfold Tab.agg at h;split at h
 ·cases h
 ·cases h
 ·rename_i h2 h3 h1 _
  exact⟨_,h1,fun fs e=>h2 fs e,fun n e h=>h3 n e h⟩
 ·cases h
theorem Dx (hs:St T.L g w H) {t:Nat} {k:Option Nat} {a x:au} (hk:T.agg t=some k) (h:loadAt H k a=some x) {v:Value} (hr:Rep T.L g v a):
  ∃z,(Instr.loadAt t v).run T.L.P w=.ok z w∧Rep T.L g z x:=by
 unfold loadAt at h
 cases k with
 |none=>
  dsimp only at h;split at h
  ·rename_i c hc
   cases h;obtain⟨b,o,vs,rfl,hl,hcell,hrep⟩:=nS hs hc hr;obtain⟨d,h1,h2,h3⟩:=LD hk
   match vs,hl with
   |[u],_=>
    refine⟨u,?_,by cases hrep;assumption⟩;unfold Instr.loadAt;have:=JE (w:=w) h1 h2 h3 b o u (hcell 0 u rfl);simp[Instr.sureAddr,this]
  ·cases h
 |some k=>
  dsimp only at h
  cases hc:fI H a k with
  |none=>rw[hc]at h;cases h
  |some cs=>
   rw[hc]at h;cases h;obtain⟨b,o,vs,rfl,hl,hcell,hrep⟩:=nS hs hc hr;obtain⟨d,i,h1,h2,h3,h4⟩:=LC hk;refine⟨.agg vs.toArray,?_,.agg _ _ hrep⟩;unfold Instr.loadAt;have:=JF (w:=w) h1 h2 h3 b o vs (hl.trans h4.symm) hcell;simp[Instr.sureAddr,this]
theorem gN (x:au) (xs:List au):flat (x::xs)=x.cells ++flat xs:=rfl
theorem om (xs ys:List au):flat (xs ++ys)=flat xs ++flat ys:=by simp[flat]
theorem iw {k:Nat} {xs:List au} (h:∀x∈xs,x.cells.length=k):(flat xs).length=xs.length*k:=by
 induction xs with
 |nil=>simp[flat]
 |cons x xs ih=>
  rw[gN,List.length_append,h x (by simp),ih fun y hy=>h y (by simp[hy]),List.length_cons,Nat.succ_mul];omega
theorem wI {xs:List au} {k:Nat} (h:dB k xs):(flat xs).all uJ=true:=by
 induction xs with
 |nil=>rfl
 |cons x xs ih=>
  rw[gN,List.all_append,Bool.and_eq_true];exact⟨(h x (by simp)).2,ih fun y hy=>h y (by simp[hy])⟩
theorem dB.len {k:Nat} {xs:List au} (h:dB k xs):∀x∈xs,x.cells.length=k:=fun x hx=>(h x hx).1
theorem Ar {k:Nat}:∀{xs:List au} (i:Nat),(∀x∈xs,x.cells.length=k)→(flat xs).take (i*k)=flat (xs.take i)
 |[],i,h=>by simp[flat]
 |x::xs,0,h=>by simp[flat]
 |x::xs,i+1,h=>by
  have hx:=h x (by simp)
  rw[gN,List.take_succ_cons,gN,List.take_append,hx,show(i+1)*k-k=i*k from by rw[Nat.add_mul];omega,Ar i fun y hy=>h y (by simp[hy]),
   List.take_of_length_le (by rw[hx,Nat.add_mul];omega)]
theorem sQ {k:Nat}:∀{xs:List au} (i:Nat),(∀x∈xs,x.cells.length=k)→(flat xs).drop (i*k)=flat (xs.drop i)
 |[],i,h=>by simp[flat]
 |x::xs,0,h=>by simp
 |x::xs,i+1,h=>by
  have hx:=h x (by simp)
  rw[gN,List.drop_succ_cons,List.drop_append,hx,show(i+1)*k-k=i*k from by rw[Nat.add_mul];omega,sQ i fun y hy=>h y (by simp[hy]),
   List.drop_of_length_le (by rw[hx,Nat.add_mul];omega),List.nil_append]
theorem E8 (hs:St L g w H) {id v t k i:Nat} {xs ys:List au} {s:ko} (hH:H[id]?=some (.arr v xs t)) (hs':g.ob id v=some s) (hk:∀x∈xs,x.cells.length=k) (hsk:xs=[]∨s.k=k) (hy:∀y∈ys,y.cells.length=k)
  (hone:(flat ys).all uJ=true) (hi:i+ys.length≤xs.length) (hne:xs≠[]) {us:List Value} (hu:aX L g us (flat ys)):
  ∃w',(storeCells ⟨s.b,i*k,none⟩ us 0).run L.P w=.ok () w'∧St L g w' (H.set id (.arr v (xs.take i ++ys ++xs.drop (i+ys.length)) t)):=by
 obtain⟨s0,cur,e1,e0,e2,e3,e4,e5,e6,e7,e8,e9,e10⟩:=hs.obj id _ hH;rw[hs']at e1;cases e1;have hsk:s.k=k:=hsk.resolve_left hne;rw[hsk]at e3 e6 e7 e8;have hul:us.length=ys.length*k:=hu.length.trans (iw hy);have hik:i*k+ys.length*k≤xs.length*k:=by rw[←Nat.add_mul];exact Nat.mul_le_mul_right _ hi
 have hst:=run_storeCells_at L.P s.b (i*k) (L.ty t) us 0 cur w e4 (by rw[hul,e5];omega) (sw hu hone);simp only[Nat.add_zero]at hst
 let cur':=(cur.toList.take (i*k) ++us ++cur.toList.drop (i*k+us.length)).toArray
 have hcs:cur'.size=cur.size:=by
  simp only[cur',List.size_toArray,List.length_append,List.length_take,List.length_drop,Array.length_toList];omega
 refine⟨w.setRow s.b cur',hst,?_⟩;have hat:=setRow_heap w s.b cur cur' (L.ty t) (0,0) e4
 have hxl:(xs.take i ++ys ++xs.drop (i+ys.length)).length=xs.length:=by
  simp only[List.length_append,List.length_take,List.length_drop];omega
 refine hs.L8 (s1:=s) hH rfl hs' (aA.le.refl g) rfl rfl rfl (fun _ _ _=>rfl) (fun _ s2 h2=>.inl h2) (fun _=>hs') (.inl rfl) (by simpa using hs.bnd _ _ _ hs') e9 (by rw[e4];simp)
  (fun b hb _=>setRow_other w s.b b _ hb) (by simp) rfl rfl rfl
  ⟨s,cur',hs',e0,e2,by rw[hsk];exact e3,hat,hcs.trans e5,fun x hx=>?_,by rw[hxl,hsk];exact e7,?_,e9,e10⟩
 ·rw[hsk]
  rcases List.mem_append.1 hx with hx|hx
  ·rcases List.mem_append.1 hx with hx|hx
   ·exact hk x (List.mem_of_mem_take hx)
   ·exact hy x hx
  ·exact hk x (List.mem_of_mem_drop hx)
 ·rw[hxl,hsk]
  have h1:cur'.toList.take (xs.length*k)=(cur.toList.take (xs.length*k)).take (i*k) ++us ++(cur.toList.take (xs.length*k)).drop ((i+ys.length)*k):=by
   simp only[cur'];have hcl:(cur.toList.take (i*k)).length=i*k:=by simp only[List.length_take,Array.length_toList];omega
   rw[List.take_append,List.take_append,hcl,List.length_append,hcl,hul,List.take_take,List.take_take,Nat.min_eq_right (by omega),Nat.min_eq_left (by omega),List.drop_take,Nat.add_mul]
   congr 1
   ·congr 1
    exact List.take_of_length_le (by rw[hul];omega)
  rw[h1,om,om,←Ar i hk,←sQ (i+ys.length) hk];exact((e8.take _).append hu).append (e8.drop _)
theorem Jr (hs:St L g w H) {t:Nat} {i:TypeInfo} {a x:au} {H':Heap} (hi:L.P.info? t=some i) (hx:jH i.size x) (h:storeAt H i.size a x=some H') {v u:Value} (hr:Rep L g v a) (hu:Rep L g u x):
  ∃w',(Instr.storeAt t v u).run L.P w=.ok () w'∧St L g w' H':=by
 unfold storeAt at h;split at h
 ·rename_i id off
  split at h
  ·rename_i cs t0 hH
   split at h
   ·rename_i hk
    cases h;obtain⟨s,vs,h1,h2,h3,h4,h5,h6⟩:=hs.obj id _ hH
    cases hr with
    |ptr _ _ s' hs' h0'=>
     rw[hs']at h1;cases h1;have hl:=h4.length;simp only[Array.length_toList]at hl;have hc:=pJ hu hx.2;have hcl:u.cells.toList.length=i.size:=hc.length.trans hx.1;have hsz:u.cells.size=i.size:=by simpa using hcl
     have hst:=run_storeCells_at L.P s.b off (L.ty t0) u.cells.toList 0 vs w h3 (by rw[hcl];omega) (sw hc hx.2);simp only[Nat.add_zero]at hst;refine⟨w.setRow s.b (vs.toList.take off ++u.cells.toList ++vs.toList.drop (off+u.cells.toList.length)).toArray,?_,?_⟩
     ·unfold Instr.storeAt
      simp[Instr.sureAddr,storeVar,sizeOf,typeInfo,hi,hsz];simpa[hsz]using hst
     ·refine hs.store hH hs' _ _ (setRow_heap w s.b vs _ (L.ty t0) (0,0) h3) (fun b hb=>setRow_other w s.b b _ hb) (by simp) rfl rfl rfl _ ?_
      rw[hcl];exact((h4.take off).append hc).append (h4.drop (off+i.size))
   ·cases h
  ·cases h
 ·rename_i id ver off
  split at h
  ·rename_i vv xs t0 hH
   split at h
   ·rename_i hk
    cases h;obtain⟨rfl,hk1,hk2,hk3,hk4⟩:=hk
    cases hr with
    |jv _ _ _ s hs'=>
     have hc:=pJ hu hx.2;have hcl:u.cells.toList.length=i.size:=hc.length.trans hx.1;have hsz:u.cells.size=i.size:=by simpa using hcl
     have hall:∀y∈xs,y.cells.length=i.size:=fun y hy=>by simpa using List.all_eq_true.1 hk4 y hy
     have hne:xs≠[]:=by rintro rfl;simp at hk3
     obtain⟨s0,cur,e1,e0,e2,e3,e4,e5,e6,_⟩:=hs.obj id _ hH;have hs0:s0=s:=by rw[hs']at e1;exact(Option.some.inj e1).symm
     subst hs0
     have hsk:s0.k=i.size:=by
      cases xs with
      |nil=>exact absurd rfl hne
      |cons y ys=>rw[←e6 y (by simp),hall y (by simp)]
     obtain⟨w',h1,h2⟩:=E8 hs hH hs' (k:=i.size) (i:=off/i.size) (ys:=[x]) hall (.inr hsk) (fun y hy=>by simp only[List.mem_singleton]at hy;subst hy;exact hk1) (by simpa[flat]using hx.2) (by show off/i.size+1≤xs.length;omega) hne (us:=u.cells.toList) (by simpa[flat]using hc);refine⟨w',?_,by simpa using h2⟩;rw[←hk2]at h1;unfold Instr.storeAt;simp[Instr.sureAddr,storeVar,sizeOf,typeInfo,hi,hsz];simpa[hsz]using h1
   ·cases h
  ·cases h
 ·cases h
theorem lS {v:Value} {xs:List au} {tk:Tok} (h:Rep L g v (.lst xs tk)):
  ∃a c k b o vs,v=.slice a xs.length c∧(xs≠[]→a=some ⟨b,o,none⟩)∧(∀j u,vs[j]?=some u→g.fz b (o+j)=some u)∧(∀x∈xs,x.cells.length=k)∧xs.length≤c∧oz g a xs.length c k tk∧aX L g vs (flat xs):=by
 cases h with
 |lst a c k b o _ vs _ ha hf hk hc ht hr=>exact⟨a,c,k,b,o,vs,rfl,ha,hf,hk,hc,ht,hr⟩
theorem St.wider (h:St L g w H) (hb:Below w.heap.size w w'):St L g w' H:=
  ⟨fun b o v hv=>(hb.cell (h.Gd hv)).trans (h.fz b o v hv),
   fun id o ho=>(h.obj id o ho).keep (aA.le.refl g) (fun _=>rfl) fun _ _ hs=>⟨hb.block _ (h.bnd _ _ _ hs),fun _=>rfl⟩,
   h.new,fun id v _ hs=>Nat.lt_of_lt_of_le (h.bnd id v _ hs) hb.size,h.inj,h.below.trans (hb.mono h.wQ),h.bs,h.fact,fun b o hk=>(hb.block _ (h.OA hk)).trans (h.kp b o hk),fun b hk=>(hb.block _ (h.Gl hk)).trans (h.dk b hk)⟩
theorem St.drew (h:St L g w H):St L g w.drew H:=
 ⟨h.fz,fun id o ho=>(h.obj id o ho).keep (aA.le.refl g) (fun _=>rfl) fun _ _ _=>⟨rfl,fun _=>rfl⟩,h.new,h.bnd,h.inj,h.below.drew,h.bs,h.fact,h.kp,h.dk⟩
theorem Qn (hs:St L g w H) {a:Option Addr} {c k:Nat} {xs:List au} {vs:List Value} {b o:Nat} (ha:xs≠[]→a=some ⟨b,o,none⟩) (hf:∀j u,vs[j]?=some u→g.fz b (o+j)=some u)
  (hvl:vs.length=xs.length*k):(Builtin.firstCells k xs.length (.slice a xs.length c)).run L.P w.drew=.ok vs.toArray w.drew:=by
 cases a with
 |none=>
  have hx:xs=[]:=Classical.byContradiction fun hn=>by have:=ha hn;cases this
  subst hx;have hv0:vs=[]:=List.eq_nil_of_length_eq_zero (by simpa using hvl);subst hv0;exact run_firstCells_none w.drew k 0 0 c
 |some ad=>
  refine run_firstCells_some w.drew k xs.length ad xs.length c vs hvl fun j u hu=>?_
  have hxn:xs≠[]:=by
   intro e0;subst e0;have:vs=[]:=List.eq_nil_of_length_eq_zero (by simpa using hvl);subst this;simp at hu
  have:=ha hxn;cases this;rw[addr_add];exact hs.drew.fz _ _ _ (hf j u hu)
theorem Ey (hs : St L g w H) {t tx ty e tt : Nat} {i : TypeInfo} {z : Value} (ht : L.P.underlying t = some (.slice e)) (hi : L.P.info? e = some i) (hz : i.zero = some z) (hzs : z.cells.size = i.size) (h0 : 0 < i.size) (htt : L.ty tt = e)
    {v u : Value} {xs ys : List au} {us : List Value} {tk : Tok} (hv : Rep L g v (.lst xs tk)) (hsrc : Src L.P i.size tx u ys.length us w) (hr' : aX L g us (flat ys)) (hy : ys ≠ []) (hk : dB i.size xs) (hk' : dB i.size ys)
    (hb : (xs.length + ys.length) * i.bytes ≤ 2 ^ 46) (hl : xs.length + ys.length ≤ 2 ^ 46) {K : au → Heap → Prop}
    (h : match tk with
        | .nil | .full => K (.lst (xs ++ ys) (.tail H.length)) (H ++ [.tail (xs.length + ys.length) tt]) ∨ (∃ id, H[id]? = some .dead ∧ K (.lst (xs ++ ys) (.tail id)) (H.set id (.tail (xs.length + ys.length) tt))) ∨
            (∃ id, H[id]? = some .dead ∧ K (.vec id (xs.length + ys.length) i.size 0 (xs.length + ys.length)) (H.set id (.arr (xs.length + ys.length) (xs ++ ys) tt))) ∨
            K (.vec H.length (xs.length + ys.length) i.size 0 (xs.length + ys.length)) (H ++ [.arr (xs.length + ys.length) (xs ++ ys) tt])
        | .tail id => match H[id]? with
          | some (.tail m t') => (m = xs.length ∧ t' = tt) ∧ K (.lst (xs ++ ys) (.tail id)) (H.set id (.tail (xs.length + ys.length) tt))
          | _ => False
        | .none => False) :
    ∃ z' w' x H' g', (Builtin.append_ #[t, tx] ty #[v, u]).run L.P w = .ok z' w' ∧ K x H' ∧ g.le g' ∧ St L g' w' H' ∧ Rep L g' z' x := by
  obtain ⟨a, c, k, b, o, vs, rfl, ha, hf, hkx, hc, htk, hr⟩ := lS hv
  have hvl : vs.length = xs.length * i.size := hr.length.trans (iw hk.len)
  have hul : us.length = ys.length * i.size := hr'.length.trans (iw hk'.len)
  have hpos : 0 < ys.length := by cases ys with | nil => exact absurd rfl hy | cons y ys => simp
  have hxy : dB i.size (xs ++ ys) := fun x hx => by
    rcases List.mem_append.1 hx with hx | hx
    · exact hk x hx
    · exact hk' x hx
  have Kw : aX L g (vs ++ us) (flat (xs ++ ys)) := by rw [om]; exact hr.append hr'
  have hlen : (vs ++ us).length = (xs ++ ys).length * i.size := by rw [List.length_append, List.length_append, hvl, hul, Nat.add_mul]
  have hxl : (xs ++ ys).length = xs.length + ys.length := List.length_append
  have hnew : ∀ cap, xs.length + ys.length ≤ cap → ((vs ++ us).toArray ++ Builtin.zeroCells z.cells (cap - (xs.length + ys.length))).size = cap * i.size ∧
      aX L g (((vs ++ us).toArray ++ Builtin.zeroCells z.cells (cap - (xs.length + ys.length))).toList.take ((xs ++ ys).length * i.size)) (flat (xs ++ ys)) := by
    intro cap hcap
    constructor
    · simp only [Array.size_append, List.size_toArray, size_zeroCells, hzs]
      rw [hlen, List.length_append, ← Nat.add_mul]
      congr 1; omega
    · rw [Array.toList_append, ← hlen, List.take_left]
      exact Kw
  have grow : c < xs.length + ys.length → ∃ cap, xs.length + ys.length ≤ cap ∧ (Builtin.append_ #[t, tx] ty #[.slice a xs.length c, u]).run L.P w =
      .ok (.slice (some ⟨w.heap.size, 0, none⟩) (xs.length + ys.length) cap) (w.drew.alloc (.cells ((vs ++ us).toArray ++ Builtin.zeroCells z.cells (cap - (xs.length + ys.length))) (L.ty tt))) := fun hroom => by
    refine ⟨grownCap w (xs.length + ys.length) c e, grownCap_ge _ _ _ _, ?_⟩
    rw [htt]
    exact run_append_grow_src (P := L.P) w t tx ty e i z ht hi hz a xs.length c vs (Qn hs ha hf hvl) u ys.length us hsrc hroom (by omega) (growslice_fits hroom (by omega))
  have N9 : c < xs.length + ys.length → (K (.lst (xs ++ ys) (.tail H.length)) (H ++ [.tail (xs.length + ys.length) tt]) ∨ (∃ id, H[id]? = some .dead ∧ K (.lst (xs ++ ys) (.tail id)) (H.set id (.tail (xs.length + ys.length) tt))) ∨
      (∃ id, H[id]? = some .dead ∧ K (.vec id (xs.length + ys.length) i.size 0 (xs.length + ys.length)) (H.set id (.arr (xs.length + ys.length) (xs ++ ys) tt))) ∨
      K (.vec H.length (xs.length + ys.length) i.size 0 (xs.length + ys.length)) (H ++ [.arr (xs.length + ys.length) (xs ++ ys) tt])) →
      ∃ z' w' x H' g', (Builtin.append_ #[t, tx] ty #[.slice a xs.length c, u]).run L.P w = .ok z' w' ∧ K x H' ∧ g.le g' ∧ St L g' w' H' ∧ Rep L g' z' x := by
    intro hroom hK
    obtain ⟨cap, hcap, hrun⟩ := grow hroom
    obtain ⟨h1, h2⟩ := hnew cap hcap
    rcases hK with hK | ⟨id, hid, hK⟩ | ⟨id, hid, hK⟩ | hK
    · obtain ⟨g', k1, k2, k3⟩ := hs.drew.Ww ((vs ++ us).toArray ++ Builtin.zeroCells z.cells (cap - (xs.length + ys.length))) tt (xs ++ ys) i.size cap h0 (by rw [List.length_append]; omega) hxy.len (by rw [List.length_append]; exact hcap) h1 h2
      rw [hxl] at k2 k3
      exact ⟨_, _, _, _, g', hrun, hK, k1, k2, k3⟩
    · obtain ⟨g', k1, k2, k3⟩ := hs.drew.Ui hid ((vs ++ us).toArray ++ Builtin.zeroCells z.cells (cap - (xs.length + ys.length))) tt (xs ++ ys) i.size cap h0 (by rw [List.length_append]; omega) hxy.len (by rw [List.length_append]; exact hcap) h1 h2
      rw [hxl] at k2 k3
      exact ⟨_, _, _, _, g', hrun, hK, k1, k2, k3⟩
    · obtain ⟨g', k1, k2, k3⟩ := hs.drew.Yh hid ((vs ++ us).toArray ++ Builtin.zeroCells z.cells (cap - (xs.length + ys.length))) tt (xs ++ ys) i.size cap h0 hxy.len (by rw [List.length_append]; exact hcap) h1 h2
      rw [hxl] at k2 k3
      exact ⟨_, _, _, _, g', hrun, hK, k1, k2, k3⟩
    · obtain ⟨g', k1, k2, k3⟩ := hs.drew.SA ((vs ++ us).toArray ++ Builtin.zeroCells z.cells (cap - (xs.length + ys.length))) tt (xs ++ ys) i.size cap h0 hxy.len (by rw [List.length_append]; exact hcap) h1 h2
      rw [hxl] at k2 k3
      exact ⟨_, _, _, _, g', hrun, hK, k1, k2, k3⟩
  cases tk with
  | none => exact h.elim
  | nil =>
    obtain ⟨e1, e2⟩ := htk
    exact N9 (by omega) h
  | full =>
    have htk : c = xs.length := htk
    exact N9 (by omega) h
  | tail id =>
    dsimp only at h
    obtain ⟨s, hs1, hs2, hs3, hs4, hs5, hs6⟩ := htk
    cases hH : H[id]? with
    | none => rw [hH] at h; exact h.elim
    | some ob =>
      cases ob <;> simp only [hH] at h
      case tail m t' =>
        obtain ⟨⟨rfl, rfl⟩, hK⟩ := h
        obtain ⟨s0, cur, e1, e00, e2, e3, e4, e5, e6⟩ := hs.obj id _ hH
        rw [hs1] at e1
        cases e1
        subst hs2
        have hkk : s.k = i.size := by
          cases xs with
          | nil => simp at hs6
          | cons x xs => exact hs3.trans ((hkx x (by simp)).symm.trans (hk x (by simp)).1)
        by_cases hroom : xs.length + ys.length ≤ c
        · have hvk : vs.length = xs.length * s.k := by rw [hkk]; exact hvl
          have huk : us.length = ys.length * s.k := by rw [hkk]; exact hul
          have hfit : s.s + xs.length * s.k + us.length ≤ cur.size := by
            have h1 : (xs.length + ys.length) * s.k ≤ c * s.k := Nat.mul_le_mul_right _ hroom
            rw [Nat.add_mul] at h1
            rw [← hs3] at hs4
            omega
          have hst := run_storeCells_at L.P s.b (s.s + xs.length * s.k) (L.ty t') us 0 cur w e3 (by simpa using hfit) (sw hr' (wI hk'))
          simp only [Nat.add_zero] at hst
          let cur' := (cur.toList.take (s.s + xs.length * s.k) ++ us ++ cur.toList.drop (s.s + xs.length * s.k + us.length)).toArray
          have hrun : (Builtin.append_ #[t, tx] ty #[.slice (some ⟨s.b, s.s, none⟩) xs.length c, u]).run L.P w =
              .ok (.slice (some ⟨s.b, s.s, none⟩) (xs.length + ys.length) c) (w.setRow s.b cur') := by
            simp only [cur', hkk] at hst ⊢
            rcases hsrc.kind with ⟨e', hk0⟩ | hk0 <;>
              (simp [Builtin.append_, run_underlying ht, run_underlying hk0, sizeOf, typeInfo, hi, hsrc.len, hroom, hsrc.cells, addr_add]
               rw [hst]
               simp)
          have hcs : cur'.size = cur.size := by
            simp only [cur', List.size_toArray, List.length_append, List.length_take, List.length_drop, Array.length_toList]
            omega
          obtain ⟨g', k1, k2, k3, k4⟩ := hs.Vq hH hs1 hpos (w.setRow s.b cur') cur cur' e3 (setRow_heap w s.b cur _ (L.ty t') (0, 0) e3) (fun b hb => setRow_other w s.b b _ hb) (by simp) rfl rfl rfl hcs
            (fun j hj => by
              have h1 : j < (cur.toList.take (s.s + xs.length * s.k)).length := by simp; omega
              simp only [cur', List.getElem?_toArray, List.append_assoc]
              rw [List.getElem?_append_left h1, List.getElem?_take, if_pos (by omega), Array.getElem?_toList]) us huk
            (fun j u hu => by
              have h1 : (cur.toList.take (s.s + xs.length * s.k)).length = s.s + xs.length * s.k := by simp; omega
              have h2 : j < us.length := by
                rcases Nat.lt_or_ge j us.length with h' | h'
                · exact h'
                · rw [List.getElem?_eq_none h'] at hu; cases hu
              simp only [cur', List.getElem?_toArray, List.append_assoc]
              rw [List.getElem?_append_right (by omega), h1, Nat.add_sub_cancel_left, List.getElem?_append_left h2]
              exact hu)
          refine ⟨_, _, _, _, g', hrun, hK, k1, k2, ?_⟩
          have hbo : b = s.b ∧ o = s.s := by
            have := ha (fun e0 => by subst e0; simp at hs6)
            cases this; exact ⟨rfl, rfl⟩
          obtain ⟨rfl, rfl⟩ := hbo
          have hres := Rep.lst (L := L) (g := g') (some ⟨s.b, s.s, none⟩) c s.k s.b s.s (xs ++ ys) (vs ++ us) (.tail id) (fun _ => rfl) (fun j u hu => by
              by_cases hj : j < vs.length
              · rw [List.getElem?_append_left hj] at hu; exact k1.fz _ _ _ (hf j u hu)
              · rw [List.getElem?_append_right (by omega)] at hu
                have := k4 _ _ hu
                rwa [show s.s + xs.length * s.k + (j - vs.length) = s.s + j from by omega] at this)
            (fun x hx => by rw [hkk]; exact (hxy x hx).1) (by rw [List.length_append]; exact hroom) ⟨s, by rw [List.length_append]; exact k3, rfl, rfl, by rw [hs3]; exact hs4, by omega, by rw [List.length_append]; omega⟩ (Kw.mono k1)
          rw [List.length_append] at hres
          exact hres
        · obtain ⟨cap, hcap, hrun⟩ := grow (by omega)
          obtain ⟨h1, h2⟩ := hnew cap hcap
          obtain ⟨g', k1, k2, k3⟩ := hs.drew.RA hH ((vs ++ us).toArray ++ Builtin.zeroCells z.cells (cap - (xs.length + ys.length))) (xs ++ ys) i.size cap h0 (by rw [List.length_append]; omega) hxy.len (by rw [List.length_append]; exact hcap) h1 h2
          rw [hxl] at k2 k3
          exact ⟨_, _, _, _, g', hrun, hK, k1, k2, k3⟩
      all_goals exact h.elim
theorem I4 (hs:St L g w H) {t e ty tt:Nat} {i:TypeInfo} {z:Value} (ht:L.P.underlying t=some (.slice e)) (hi:L.P.info? e=some i) (hz:i.zero=some z) (hzs:z.cells.size=i.size) (h0:0<i.size) (htt:L.ty tt=e)
  {v u:Value} {xs ys:List au} {tk tk':Tok} (hv:Rep L g v (.lst xs tk)) (hu:Rep L g u (.lst ys tk')) (hk:dB i.size xs) (hk':dB i.size ys)
  (hb:(xs.length+ys.length)*i.bytes≤2^46) (hl:xs.length+ys.length≤2^46) {K:au→Heap→Prop}
  (h:if ys=[]then K (.lst xs tk) H else match tk with
    |.nil|.full=>K (.lst (xs ++ys) (.tail H.length)) (H ++[.tail (xs ++ys).length tt])∨(∃id,H[id]?=some .dead∧K (.lst (xs ++ys) (.tail id)) (H.set id (.tail (xs ++ys).length tt)))∨
      (∃id,H[id]?=some .dead∧K (.vec id (xs ++ys).length i.size 0 (xs ++ys).length) (H.set id (.arr (xs ++ys).length (xs ++ys) tt)))∨
      K (.vec H.length (xs ++ys).length i.size 0 (xs ++ys).length) (H ++[.arr (xs ++ys).length (xs ++ys) tt])
    |.tail id=>match H[id]? with
     |some (.tail m t')=>(m=xs.length∧t'=tt)∧K (.lst (xs ++ys) (.tail id)) (H.set id (.tail (xs ++ys).length tt))
     |_=>False
    |.none=>False):
  ∃z' w' x H' g',(Builtin.append_ #[t,t] ty #[v,u]).run L.P w=.ok z' w'∧K x H'∧g.le g'∧St L g' w' H'∧Rep L g' z' x:=by
 obtain⟨a',c',k',b',o',us,rfl,ha',hf',hkx',hc',htk',hr'⟩:=lS hu;have hul:us.length=ys.length*i.size:=hr'.length.trans (iw hk'.len)
 by_cases hy:ys=[]
 ·rw[if_pos hy]at h
  obtain⟨a,c,k,b,o,vs,rfl,ha,hf,hkx,hc,htk,hr⟩:=lS hv;subst hy;refine⟨.slice a xs.length c,w,_,H,g,?_,h,aA.le.refl g,hs,hv⟩
  have hf0:∀(a'':Option Addr),(Builtin.firstCells i.size 0 (.slice a'' 0 c')).run L.P w=.ok #[] w:=fun a''=>by
   cases a''<;>simp[Builtin.firstCells,loadCells,loadCellsFrom]
  cases a<;>simp[Builtin.append_,run_underlying ht,sizeOf,typeInfo,hi,Builtin.lenOf,hc,hf0,storeCells]
 ·rw[if_neg hy,List.length_append]at h
  have hy':=ha' hy;subst hy';refine Ey hs ht hi hz hzs h0 htt hv (Src.ofSlice w ht _ _ _ us hul (fun j u hu=>by rw[addr_add];exact hs.fz _ _ _ (hf' j u hu)) ?_) hr' hy hk hk' hb hl h;exact sw hr' (wI hk')
theorem L6 (hs : St L g w H) {t e ty tt : Nat} {i : TypeInfo} {z : Value} (ht : L.P.underlying t = some (.slice e)) (hi : L.P.info? e = some i) (hz : i.zero = some z) (hzs : z.cells.size = i.size) (h0 : 0 < i.size) (htt : L.ty tt = e)
    {v u : Value} {id len ver nv : Nat} {zs ys : List au} {tk' : Tok} (hv : Rep L g v (.vec id ver i.size 0 len)) (hH : H[id]? = some (.arr ver zs tt)) (hzl : len ≤ zs.length) (hnv : ver < nv) (hu : Rep L g u (.lst ys tk')) (hy : ys ≠ []) (hkz : dB i.size zs) (hk' : dB i.size ys)
    (hb : (len + ys.length) * i.bytes ≤ 2 ^ 46) (hl : len + ys.length ≤ 2 ^ 46) :
    ∃ z' w' g', (Builtin.append_ #[t, t] ty #[v, u]).run L.P w = .ok z' w' ∧ g.le g' ∧ St L g' w' (H.set id (.arr nv (zs.take len ++ ys) tt)) ∧ Rep L g' z' (.vec id nv i.size 0 (len + ys.length)) := by
  obtain ⟨a', c', k', b', o', us, rfl, ha', hf', hkx', hc', htk', hr'⟩ := lS hu
  have hul : us.length = ys.length * i.size := hr'.length.trans (iw hk'.len)
  have hone := sw hr' (wI hk')
  obtain ⟨s, cur, e1, e0, e2, e3, e4, e5, e6, e7, e8, e9, e10⟩ := hs.obj id _ hH
  have hpos : 0 < ys.length := by cases ys with | nil => exact absurd rfl hy | cons y ys => simp
  have hsrc : Src L.P i.size t (.slice a' ys.length c') ys.length us w := by
    have hy' := ha' hy
    subst hy'
    exact Src.ofSlice w ht _ _ _ us hul (fun j u hu => by rw [addr_add]; exact hs.fz _ _ _ (hf' j u hu)) hone
  cases hv with
  | vec _ _ _ _ _ c s' hs' hsk hc hz' =>
  rw [hs'] at e1; cases e1
  obtain ⟨xs, hxs⟩ : ∃ xs, zs.take len = xs := ⟨_, rfl⟩
  rw [hxs]
  have hxl : xs.length = len := by rw [← hxs, List.length_take]; omega
  have hk : dB i.size xs := fun x hx => hkz x (by rw [← hxs] at hx; exact List.mem_of_mem_take hx)
  subst hxl
  rw [Nat.zero_mul]
  have hkk : s.k = i.size := hsk
  have hxy : dB i.size (xs ++ ys) := fun x hx => by
    rcases List.mem_append.1 hx with hx | hx
    · exact hk x hx
    · exact hk' x hx
  rw [hkk] at e6 e7 e8
  have hle0 : xs.length * i.size ≤ zs.length * i.size := Nat.mul_le_mul_right _ hzl
  have e7 : xs.length * i.size ≤ s.z := Nat.le_trans hle0 e7
  have e8 : aX L g (cur.toList.take (xs.length * i.size)) (flat xs) := by
    have h1 := e8.take (xs.length * i.size)
    rw [List.take_take, Nat.min_eq_left hle0, Ar _ hkz.len, hxs] at h1
    exact h1
  have hvl := e8.length
  rw [iw hk.len] at hvl
  simp only [List.length_take, Array.length_toList] at hvl
  let vs := cur.toList.take (xs.length * i.size)
  have hvl2 : vs.length = xs.length * i.size := by simp only [vs, List.length_take, Array.length_toList]; omega
  have Kw : aX L g (vs ++ us) (flat (xs ++ ys)) := by rw [om]; exact e8.append hr'
  have hlen : (vs ++ us).length = (xs ++ ys).length * i.size := by rw [List.length_append, List.length_append, hvl2, hul, Nat.add_mul]
  have hnone : g.ob id nv = none := e2 _ hnv
  by_cases hroom : xs.length + ys.length ≤ c
  · have hcz : (xs.length + ys.length) * i.size ≤ s.z := by
      have := Nat.mul_le_mul_right i.size hroom
      rw [Nat.zero_add] at hz'; omega
    rw [Nat.add_mul] at hcz
    have hst := run_storeCells_at L.P s.b (xs.length * i.size) (L.ty tt) us 0 cur w e4 (by simp; omega) hone
    simp only [Nat.add_zero] at hst
    let cur' := (cur.toList.take (xs.length * i.size) ++ us ++ cur.toList.drop (xs.length * i.size + us.length)).toArray
    have hrun : (Builtin.append_ #[t, t] ty #[.slice (some ⟨s.b, 0, none⟩) xs.length c, .slice a' ys.length c']).run L.P w =
        .ok (.slice (some ⟨s.b, 0, none⟩) (xs.length + ys.length) c) (w.setRow s.b cur') := by
      rcases hsrc.kind with ⟨e', hk0⟩ | hk0 <;>
        (simp [Builtin.append_, run_underlying ht, sizeOf, typeInfo, hi, hsrc.len, hroom, hsrc.cells, addr_add]
         rw [hst]
         simp [cur'])
    have hcs : cur'.size = cur.size := by
      simp only [cur', List.size_toArray, List.length_append, List.length_take, List.length_drop, Array.length_toList]
      omega
    have hle := aA.jN hnone s
    have hat := setRow_heap w s.b cur cur' (L.ty tt) (0, 0) e4
    refine ⟨_, _, g.dW id nv s, hrun, hle, ?_, ?_⟩
    · refine hs.L8 hH rfl hs' hle rfl rfl rfl (fun i v hi => aA.dN _ _ _ _ hi) (fun v s2 h2 => ?_) (fun _ => aA.bF ..) (.inl rfl) (by simpa using hs.bnd _ _ _ hs') e9 (by rw [e4]; simp)
        (fun b hb _ => setRow_other w s.b b _ hb) (by simp) rfl rfl rfl
        ⟨s, cur', aA.bF .., e0, fun m hm => ?_, by rw [hkk]; exact h0, hat, hcs.trans e5, fun x hx => by rw [hkk]; exact (hxy x hx).1, by rw [List.length_append, hkk, Nat.add_mul]; omega, ?_, e9, e10⟩
      · simp only [aA.dW] at h2
        split at h2
        · exact .inr (Option.some.inj h2).symm
        · exact .inl h2
      · simp only [aA.dW]; rw [if_neg (by omega)]; exact e2 m (by omega)
      · have : cur'.toList.take ((xs ++ ys).length * s.k) = vs ++ us := by
          rw [hkk, ← hlen]
          simp only [cur']
          exact List.take_left
        rw [this]; exact Kw.mono hle
    · have := Rep.vec (L := L) (g := g.dW id nv s) id nv i.size 0 (xs.length + ys.length) c s (aA.bF ..) hkk hroom (by rw [Nat.zero_add] at hz' ⊢; exact hz')
      rwa [Nat.zero_mul] at this
  · have hold : (Builtin.firstCells i.size xs.length (.slice (some ⟨s.b, 0, none⟩) xs.length c)).run L.P w.drew = .ok vs.toArray w.drew :=
      run_firstCells_some w.drew i.size xs.length ⟨s.b, 0, none⟩ xs.length c vs hvl2 fun j u hu => by
        rw [addr_add, Nat.zero_add]
        simp only [vs, List.getElem?_take] at hu
        split at hu
        · show w.cell? _ = _
          simp only [World.cell?, e4, Option.isSome_none, Bool.false_eq_true, if_false]
          simpa using hu
        · cases hu
    have hrun := run_append_grow_src (P := L.P) w t t ty e i z ht hi hz (some ⟨s.b, 0, none⟩) xs.length c vs hold (.slice a' ys.length c') ys.length us hsrc (by omega) (by omega) (growslice_fits (by omega) (by omega))
    have hge := grownCap_ge w (xs.length + ys.length) c e
    generalize grownCap w (xs.length + ys.length) c e = cap at hrun hge
    let nw := (vs ++ us).toArray ++ Builtin.zeroCells z.cells (cap - (xs.length + ys.length))
    have hnz : nw.size = cap * i.size := by
      simp only [nw, Array.size_append, List.size_toArray, size_zeroCells, hzs]
      rw [hlen, List.length_append, ← Nat.add_mul]
      congr 1; omega
    let s1 : ko := ⟨w.heap.size, 0, nw.size, i.size⟩
    have hle := aA.jN hnone s1
    refine ⟨_, _, g.dW id nv s1, hrun, hle, ?_, ?_⟩
    · have hsz : (w.drew.alloc (.cells nw e)).heap.size = w.heap.size + 1 := cO w.drew _
      refine hs.L8 (s1 := s1) hH rfl hs' hle rfl rfl rfl (fun i v hi => aA.dN _ _ _ _ hi) (fun v s2 h2 => ?_) (fun _ => aA.bF ..) (.inr rfl) (by rw [hsz]; simp only [s1]; omega) e9 (by rw [e4]; simp)
        (fun b _ hb => heap_alloc_old w.drew _ hb) (by rw [hsz]; omega) rfl rfl rfl
        ⟨s1, nw, aA.bF .., rfl, fun m hm => ?_, h0, by rw [htt]; exact dG w.drew _, rfl, hxy.len, ?_, ?_, fun o => hs.oH o, hs.jG⟩
      · simp only [aA.dW] at h2
        split at h2
        · exact .inr (Option.some.inj h2).symm
        · exact .inl h2
      · simp only [aA.dW]; rw [if_neg (by omega)]; exact e2 m (by omega)
      · rw [List.length_append]
        show _ ≤ nw.size
        rw [hnz]; exact Nat.mul_le_mul_right _ hge
      · have : nw.toList.take ((xs ++ ys).length * i.size) = vs ++ us := by
          simp only [nw]
          rw [Array.toList_append, ← hlen, List.take_left]
        rw [this]; exact Kw.mono hle
    · have := Rep.vec (L := L) (g := g.dW id nv s1) id nv i.size 0 (xs.length + ys.length) cap s1 (aA.bF ..) rfl hge (by rw [Nat.zero_add]; show _ ≤ nw.size; rw [hnz]; exact Nat.le_refl _)
      rwa [Nat.zero_mul] at this
theorem Cq (z:Array Value) (n:Nat):(Builtin.zeroCells z (n+1)).toList=(Builtin.zeroCells z n).toList ++z.toList:=by
 unfold Builtin.zeroCells;simp only[Array.toList_map,Array.toList_range];rw[Nat.add_mul,Nat.one_mul,List.range_add,List.map_append,List.map_map]
 congr 1
 apply List.ext_getElem
 ·simp
 ·intro i h1 h2
  simp only[List.length_map,List.length_range]at h1;simp only[List.getElem_map,List.getElem_range,Function.comp];rw[show(n*z.size+i)%z.size=i from by rw[Nat.mul_comm,Nat.mul_add_mod];exact Nat.mod_eq_of_lt h1];simp[h1]
theorem wZ {z:Value} {zv:au} (hr:Rep L g z zv) (ho:zv.cells.all uJ=true):∀n,aX L g (Builtin.zeroCells z.cells n).toList (flat (List.replicate n zv))
 |0=>by simp[Builtin.zeroCells,flat];exact .nil
 |n+1=>by
  rw[Cq,List.replicate_succ',om];exact(wZ hr ho n).append (by simpa[flat]using pJ hr ho)
theorem Rn (hs:St L g w H) {t e ty:Nat} {i:TypeInfo} {z:Value} {zv:au} (ht:L.P.underlying t=some (.slice e)) (hi:L.P.info? e=some i) (hz:i.zero=some z) (hzv:cVal z=some zv) (hzl:zv.cells.length=i.size) (hzo:zv.cells.all uJ=true)
  {v:Value} {x:au} {H':Heap} (hr:Rep L g v x) (h:IV i.size zv H x=some H'):∃w',(Builtin.clear_ #[t] ty #[v]).run L.P w=.ok (.tuple #[]) w'∧St L g w' H':=by
 unfold IV at h;split at h
 ·cases h
  cases hr with
  |lst a c k b o _ vs tk ha hf hk hc ht' hr'=>
   refine⟨w,?_,hs⟩;cases a<;>simp[Builtin.clear_,run_underlying ht]
 ·rename_i id ver k' off len
  split at h
  ·cases h
   cases hr with
   |vec _ _ _ _ _ c s hs' hsk hc hz'=>
    refine⟨w,?_,hs⟩;simp[Builtin.clear_,run_underlying ht]
  ·rename_i len
   split at h
   ·rename_i vv xs t0 hH
    split at h
    ·rename_i hk
     cases h;obtain⟨rfl,rfl,hk3,hk4⟩:=hk
     cases hr with
     |vec _ _ _ _ _ c s hs' hsk hc hz'=>
      have hall:∀y∈xs,y.cells.length=i.size:=fun y hy=>by simpa using List.all_eq_true.1 hk4 y hy
      have hne:xs≠[]:=by rintro rfl;simp at hk3
      have hrep:∀y∈List.replicate (len+1) zv,y.cells.length=i.size:=fun y hy=>by rw[List.eq_of_mem_replicate hy];exact hzl
      obtain⟨w',h1,h2⟩:=E8 hs hH hs' (k:=i.size) (i:=off) (ys:=List.replicate (len+1) zv) hall (.inr hsk) hrep (wI fun y hy=>by rw[List.eq_of_mem_replicate hy];exact⟨hzl,hzo⟩)
       (by rw[List.length_replicate];exact hk3) hne (wZ (zy hzv) hzo (len+1))
      refine⟨w',?_,by rw[List.length_replicate]at h2;exact h2⟩;have hzr:(zeroValue e).run L.P w=.ok z w:=by simp[zeroValue,typeInfo,hi,hz]
      simp[Builtin.clear_,run_underlying ht,hzr,h1]
    ·cases h
   ·cases h
 ·cases h
theorem yh (s:List UInt8):flat (je s)=je s:=by
 induction s with
 |nil=>rfl
 |cons b s ih=>simp only[je,List.map_cons]at ih⊢;rw[gN,ih];rfl
theorem Lv (s:List UInt8):dB 1 (je s):=fun x hx=>by
 simp only[je,List.mem_map]at hx;obtain⟨b,_,rfl⟩:=hx;exact⟨rfl,rfl⟩
theorem Ru (s:List UInt8):aX L g (byteCells ⟨s.toArray⟩) (je s):=by
 simp only[byteCells,je]
 induction s with
 |nil=>exact .nil
 |cons b s ih=>exact .cons _ _ _ _ (.int _ _) ih
theorem Aw {vs:List Value} {s:List UInt8} (h:aX L g vs (flat (je s))):vs=s.map fun b=>Value.int .u8 b.toNat:=by
 rw[yh]at h
 induction s generalizing vs with
 |nil=>cases h;rfl
 |cons b s ih=>
  simp only[je,List.map_cons]at h⊢
  cases h with
  |cons v _ vs' _ hv hvs=>rw[gG hv,ih hvs]
theorem EX (hs:St L g w H) {t tx e ty tt:Nat} {i:TypeInfo} {z:Value} (ht:L.P.underlying t=some (.slice e)) (htx:L.P.underlying tx=some .string) (hi:L.P.info? e=some i) (hz:i.zero=some z) (hzs:z.cells.size=i.size) (h1:i.size=1) (htt:L.ty tt=e)
  {v u:Value} {xs:List au} {y:List UInt8} {tk:Tok} (hv:Rep L g v (.lst xs tk)) (hu:Rep L g u (.str y)) (hk:dB 1 xs)
  (hb:(xs.length+y.length)*i.bytes≤2^46) (hl:xs.length+y.length≤2^46) {K:au→Heap→Prop}
  (h:if y=[]then K (.lst xs tk) H else match tk with
    |.nil|.full=>K (.lst (xs ++je y) (.tail H.length)) (H ++[.tail (xs.length+y.length) tt])
    |.tail id=>match H[id]? with
     |some (.tail m t')=>(m=xs.length∧t'=tt)∧K (.lst (xs ++je y) (.tail id)) (H.set id (.tail (xs.length+y.length) tt))
     |_=>False
    |.none=>False):
  ∃z' w' x H' g',(Builtin.append_ #[t,tx] ty #[v,u]).run L.P w=.ok z' w'∧K x H'∧g.le g'∧St L g' w' H'∧Rep L g' z' x:=by
 have hus:=iQ hu;subst hus;have hbl:(je y).length=y.length:=by simp[je]
 by_cases hy:y=[]
 ·rw[if_pos hy]at h
  obtain⟨a,c,k,b,o,vs,rfl,ha,hf,hkx,hc,htk,hr⟩:=lS hv;subst hy;refine⟨.slice a xs.length c,w,_,H,g,?_,h,aA.le.refl g,hs,hv⟩;cases a<;>simp[Builtin.append_,run_underlying ht,run_underlying htx,sizeOf,typeInfo,hi,Builtin.lenOf,hc,storeCells,Builtin.firstCells,ByteArray.size]
 ·rw[if_neg hy]at h
  have hsrc:=Src.ofString (P:=L.P) w htx ⟨y.toArray⟩;have hsz:(⟨y.toArray⟩:ByteArray).size=(je y).length:=by simp[ByteArray.size,je]
  rw[hsz,←h1]at hsrc
  refine Ey hs ht hi hz hzs (by omega) htt hv hsrc (by rw[yh];exact Ru y) (fun e0=>hy ?_) (by rw[h1];exact hk) (by rw[h1];exact Lv y) (by rw[hbl];exact hb) (by rw[hbl];exact hl) (by
   rw[hbl]
   cases tk with
   |nil=>exact .inl h
   |full=>exact .inl h
   |tail id=>exact h
   |none=>exact h)
  have:=congrArg List.length e0;rw[hbl]at this;exact List.eq_nil_of_length_eq_zero this
theorem sN (off:Nat):∀(us:List Value) (i:Nat) (cur:Array Value),off+i+us.length≤cur.size→
  ((us.zipIdx i).foldl (fun cs (p:Value×Nat)=>cs.setIfInBounds (off+p.2) p.1) cur).toList=cur.toList.take (off+i) ++us ++cur.toList.drop (off+i+us.length)
 |[],i,cur,_=>by simp
 |u::us,i,cur,h=>by
  simp only[List.zipIdx_cons,List.foldl_cons,List.length_cons]at h⊢;rw[sN off us (i+1) (cur.setIfInBounds (off+i) u) (by simp;omega)];have e:=list_seg_step cur.toList (off+i) u us (by simp;omega);simpa[Array.toList_setIfInBounds,Nat.add_assoc,Nat.add_comm,Nat.add_left_comm]using e
theorem xX {L:Lnk} {g:aA} {place:Nat→Option (Nat×Nat)}:∀(ps:List (Nat×Value)) (abJ:List (Nat×Nat×au)) (cur:Array Value) (cs:List au),
  aX L g cur.toList cs→ps.length=abJ.length→
  (∀(j:Nat) (p:Nat×Value) (a:Nat×Nat×au),ps[j]?=some p→abJ[j]?=some a→place p.1=some (a.1,a.2.1)∧Rep L g p.2 a.2.2∧jH a.2.1 a.2.2∧a.1+a.2.1≤cs.length)→
  ∃cur',Instr.fill place cur ps=some cur'∧aX L g cur'.toList (Bv cs (abJ.map fun a=>(a.1,a.2.2.cells)))
 |[],[],cur,cs,h,_,_=>⟨cur,rfl,h⟩
 |[],_::_,_,_,_,h,_=>by simp at h
 |_::_,[],_,_,_,h,_=>by simp at h
 |(i,v)::ps,(o,k,a)::abJ,cur,cs,h,hl,hp=>by
  obtain⟨h1,h2,h3,h4⟩:=hp 0 (i,v) (o,k,a) rfl rfl;have hc:=pJ h2 h3.2;have hcl:v.cells.toList.length=k:=hc.length.trans h3.1;have hcs:v.cells.size=k:=by simpa using hcl
  have hcur:=h.length;simp only[Array.length_toList]at hcur;dsimp only at h1 h4
  have hz:v.cells.zipIdx.foldl (fun cs (p:Value×Nat)=>cs.setIfInBounds (o+p.2) p.1) cur=(cur.toList.take o ++v.cells.toList ++cur.toList.drop (o+v.cells.toList.length)).toArray:=by
   apply Array.ext';have:=sN o v.cells.toList 0 cur (by omega);rw[←Array.foldl_toList,Array.toList_zipIdx];simpa using this
  have hrep:aX L g (cur.toList.take o ++v.cells.toList ++cur.toList.drop (o+v.cells.toList.length)) (cs.take o ++a.cells ++cs.drop (o+a.cells.length)):=by
   rw[hcl,h3.1];exact((h.take o).append hc).append (h.drop (o+k))
  obtain⟨cur',e1,e2⟩:=xX ps abJ (cur.toList.take o ++v.cells.toList ++cur.toList.drop (o+v.cells.toList.length)).toArray (cs.take o ++a.cells ++cs.drop (o+a.cells.length)) hrep (by simpa using hl) (fun j p b hj hj'=>by
   obtain⟨q1,q2,q3,q4⟩:=hp (j+1) p b hj hj';refine⟨q1,q2,q3,?_⟩;simp only[List.length_append,List.length_take,List.length_drop]
   omega)
  refine⟨cur',?_,e2⟩;unfold Instr.fill;simp only[h1];rw[if_neg (by rw[hcs];simp;omega)];have:v.cells.zipIdx.foldl (fun cs (c,j)=>cs.setIfInBounds (o+j) c) cur=(cur.toList.take o ++v.cells.toList ++cur.toList.drop (o+v.cells.toList.length)).toArray:=hz;rw[this];exact e1
theorem zA {places:List (Nat×Nat)} {a:Act} {n:Nat} {e:Env} (hr:dR T.L g n a.tmps e):∀(ps:List (Nat×Operand)) (abJ:List (Nat×Nat×AX)),Ev T places ps=some abJ→
  ps.length=abJ.length∧∀(j:Nat) (p:Nat×Operand) (x:Nat×Nat×AX),ps[j]?=some p→abJ[j]?=some x→places[p.1]?=some (x.1,x.2.1)∧Rep T.L g (a.eval p.2) (ev e x.2.2)
 |[],abJ,h=>by cases h;exact⟨rfl,fun j p x hj=>by simp at hj⟩
 |(i,x)::ps,abJ,h=>by
  simp only[Ev]at h
  cases h1:places[i]? with
  |none=>rw[h1]at h;cases h
  |some f=>cases h2:cX T x with
   |none=>rw[h1,h2]at h;cases h
   |some y=>cases h3:Ev T places ps with
    |none=>rw[h1,h2,h3]at h;cases h
    |some ys=>
     rw[h1,h2,h3]at h;cases h;obtain⟨k1,k2⟩:=zA hr ps ys h3;refine⟨by simp[k1],fun j p x' hj hj'=>?_⟩
     cases j with
     |zero=>simp at hj hj';subst hj;subst hj';exact⟨h1,bQ h2 hr⟩
     |succ j=>simp at hj hj';exact k2 j p x' hj hj'
theorem zB {a:Act} {n:Nat} {e:Env} (hr:dR T.L g n a.tmps e):∀(ps:List (Nat×Operand)) (m:Nat) (abJ:List (Nat×AX)),Av T m ps=some abJ→
  ps.length=abJ.length∧∀(j:Nat) (p:Nat×Operand) (x:Nat×AX),ps[j]?=some p→abJ[j]?=some x→p.1=m+j∧x.1=m+j∧Rep T.L g (a.eval p.2) (ev e x.2)
 |[],m,abJ,h=>by cases h;exact⟨rfl,fun j p x hj=>by simp at hj⟩
 |(i,x)::ps,m,abJ,h=>by
  simp only[Av]at h;split at h
  ·rename_i him
   cases h2:cX T x with
   |none=>rw[h2]at h;cases h
   |some y=>cases h3:Av T (m+1) ps with
    |none=>rw[h2,h3]at h;cases h
    |some ys=>
     rw[h2,h3]at h;cases h;obtain⟨k1,k2⟩:=zB hr ps (m+1) ys h3;refine⟨by simp[k1],fun j p x' hj hj'=>?_⟩
     cases j with
     |zero=>simp at hj hj';subst hj;subst hj';exact⟨by simp[him],by simp[him],bQ h2 hr⟩
     |succ j=>simp at hj hj';obtain⟨q1,q2,q3⟩:=k2 j p x' hj hj';exact⟨by omega,by omega,q3⟩
  ·cases h
theorem YR (vs:List Value):aX L g vs (List.replicate vs.length .undef):=by
 induction vs with
 |nil=>exact .nil
 |cons v vs ih=>exact .cons _ _ _ _ (.undef v) ih
theorem Gi (k : Nat) : ∀ (abJ : List (Nat × au)) (m : Nat) (done rest : List au), done.length = m * k → rest.length = abJ.length * k → (∀ j p, abJ[j]? = some p → p.1 = (m + j) * k ∧ p.2.cells.length = k) →
  Bv (done ++ rest) (abJ.map fun p => (p.1, p.2.cells)) = done ++ flat (abJ.map (·.2))
 | [], m, done, rest, _, h2, _ => by
  have : rest = [] := List.eq_nil_of_length_eq_zero (by simpa using h2)
  subst this; simp [Bv, flat]
 | (i, x) :: abJ, m, done, rest, h1, h2, h3 => by
  obtain ⟨e1, e2⟩ := h3 0 (i, x) rfl
  dsimp only at e1 e2
  have hi : i = done.length := by rw [e1, h1]; simp
  have hk : k ≤ rest.length := by rw [h2, List.length_cons, Nat.succ_mul]; omega
  simp only [List.map_cons, Bv]
  have e3 : (done ++ rest).take i ++ x.cells ++ (done ++ rest).drop (i + x.cells.length) = (done ++ x.cells) ++ rest.drop k := by
   rw [hi, List.take_left, e2, ← List.drop_drop, List.drop_left]
  rw [e3, Gi k abJ (m + 1) (done ++ x.cells) (rest.drop k) (by rw [List.length_append, h1, e2, Nat.succ_mul]) (by rw [List.length_drop, h2, List.length_cons, Nat.succ_mul]; omega)
   (fun j p hj => by
    obtain ⟨q1, q2⟩ := h3 (j + 1) p hj
    exact ⟨by rw [q1]; congr 1; omega, q2⟩)]
  simp [gN]
end Go.Ag
/- Every operation that the compiling function knows does what its abstract operation says. -/
namespace Go.Ag
open Go
open Go.RowKit (Below)
variable {T : Tab} {g : aA} {w : World} {H : Heap} {K KP : au → Heap → Prop} {e : Env} {a : Act} {n : Nat}
theorem Gb {f:Nat} {args:List au} {vs:List Value} (hs:St T.L g w H) (hf:T.L.callable f) (h:aC T.L f args H (eB K KP)) (hr:aX T.L g vs args):
  Good T.L g K KP ((callFunc (T.L.num f) vs.toArray).run T.L.P w):=by
 obtain⟨fn,h1,h2,h3⟩:=hf
 have hrun:(callFunc (T.L.num f) vs.toArray).run T.L.P w=.ok (.enter (T.L.num f) vs.toArray) w:=by
  unfold callFunc;have h4:¬fn.body=none:=by intro e0;rw[e0]at h2;cases h2
  have h5:¬fn.name= "runtime.NumGoroutine" :=by simpa using h3
  simp[h1,h4,h5]
 rw[hrun];show Calls _ _ _ _ _;refine(h g w vs hs hr).mono fun en w' hh=>?_
 obtain⟨r,H',g',q,hle,hst,hrep⟩:=hh
 cases r with
 |ret x=>obtain⟨v,rfl,hrep⟩:=hrep;exact⟨x,H',g',q,hle,hst,hrep⟩
 |pan x=>obtain⟨v,rfl,hrep⟩:=hrep;exact⟨v,x,H',g',rfl,q,hle,hst,hrep⟩
def Ay (x:Option Value) (d i:Nat):Prop:=match x with
 |some v=>∃k,v=.int k (i:Int)
 |none=>i=d
def repO (T:Tab) (g:aA) (x:Option Value) (b:Option au):Prop:=match x,b with
 |some v,some a=>Rep T.L g v a
 |none,none=>True
 |_,_=>False
theorem IY {g:aA} {x:Option Value} {b:Option au} {d i:Nat} (h:fO b d=some i) (hx:repO T g x b):Ay x d i:=by
 cases x with
 |none=>cases b with
  |none=>simp only[fO,Option.some.injEq]at h;exact h.symm
  |some a=>exact hx.elim
 |some v=>cases b with
  |none=>exact hx.elim
  |some a=>
   cases a<;>simp only[fO]at h<;>try cases h
   rename_i k m;split at h
   ·rename_i hm
    cases h;refine⟨k,?_⟩;rw[Int.toNat_of_nonneg hm];exact gG hx
   ·cases h
theorem Yo {x:Option Operand} {ax:Option AX} (h:cXo T x=some ax) (hr:dR T.L g n a.tmps e):
  repO T g (x.map a.eval) (ax.map (ev e)):=by
 cases x with
 |none=>cases h;trivial
 |some x=>
  simp only[cXo]at h
  cases h1:cX T x with
  |none=>rw[h1]at h;cases h
  |some y=>rw[h1]at h;cases h;exact bQ h1 hr
theorem KU (s:List UInt8) (l h:Nat):(⟨s.toArray⟩:ByteArray).extract l h=⟨((s.take h).drop l).toArray⟩:=by
 apply ByteArray.ext;simp[ByteArray.data_extract,List.drop_take]
theorem EJ {P:Program} {t:TypeId} {s:List UInt8} {lo hi:Option Value} {l h:Nat} (ht:P.underlying t=some .string)
  (h1:Ay lo 0 l) (h2:Ay hi s.length h) (hlh:l≤h) (hhs:h≤s.length):
  (Instr.sliceAt t (.string ⟨s.toArray⟩) lo hi none).run P w=.ok (.string ⟨((s.take h).drop l).toArray⟩) w:=by
 have hsz:(⟨s.toArray⟩:ByteArray).size=s.length:=by simp[ByteArray.size]
 have hb:(Instr.sliceBounds false s.length s.length lo hi none).run P w=.ok (l,h,s.length) w:=by
  unfold Instr.sliceBounds
  cases lo with
  |none=>cases hi with
   |none=>have h1:l=0:=h1;have h2:h=_:=h2;subst h1;subst h2;simp
   |some v=>obtain⟨k,rfl⟩:=h2;have h1:l=0:=h1;subst h1;simp[Instr.sliceBound,asIntOf,hhs]
  |some u=>obtain⟨k',rfl⟩:=h1;cases hi with
   |none=>have h2:h=_:=h2;subst h2;simp[Instr.sliceBound,asIntOf,hlh]
   |some v=>obtain⟨k,rfl⟩:=h2;simp[Instr.sliceBound,asIntOf,hhs,hlh]
 unfold Instr.sliceAt;simp only[Sem.run_bind,run_underlying ht,Result.andThen_ok,Instr.slice,hsz,hb,Option.isSome_none,Bool.false_eq_true,if_false];rw[KU];rfl
theorem xq {P:Program} {t el:TypeId} {i:TypeInfo} {x:Option Addr} {len c:Nat} {lo hi:Option Value} {l h:Nat} (ht:P.underlying t=some (.slice el)) (hi':P.info? el=some i)
  (h1:Ay lo 0 l) (h2:Ay hi len h) (hlh:l≤h) (hhs:h≤len) (hc:len≤c):
  (Instr.sliceAt t (.slice x len c) lo hi none).run P w=.ok (.slice (if c=l then x else x.map (·.add (l*i.size))) (h-l) (c-l)) w:=by
 have hhc:h≤c:=Nat.le_trans hhs hc
 have hb:(Instr.sliceBounds true len c lo hi none).run P w=.ok (l,h,c) w:=by
  unfold Instr.sliceBounds
  cases lo with
  |none=>cases hi with
   |none=>have h1:l=0:=h1;have h2:h=_:=h2;subst h1;subst h2;simp
   |some v=>obtain⟨k,rfl⟩:=h2;have h1:l=0:=h1;subst h1;simp[Instr.sliceBound,asIntOf,hhc]
  |some u=>obtain⟨k',rfl⟩:=h1;cases hi with
   |none=>have h2:h=_:=h2;subst h2;simp[Instr.sliceBound,asIntOf,hlh]
   |some v=>obtain⟨k,rfl⟩:=h2;simp[Instr.sliceBound,asIntOf,hhc,hlh]
 unfold Instr.sliceAt;simp[run_underlying ht,Instr.slice,hb,sizeOf,typeInfo,hi']
theorem map_some {α β:Type} {f:α→β} {x:Option α} {b:β} (h:x.map f=some b):∃a,x=some a∧b=f a:=by
 cases x with
 |none=>cases h
 |some a=>cases h;exact⟨a,rfl,rfl⟩
theorem Tab.w9 {t tt:Nat} (ht:T.ty t=some tt):T.L.ty tt=t:=by
 unfold Tab.ty at ht;split at ht
 ·rename_i hh;cases ht;exact hh
 ·cases ht
theorem Y4 {o:Oper} {q:AOp} {x:_} (hop:o.op=.move x) (hq:cOp T o=some q) (hs:St T.L g w H) (hr:dR T.L g n a.tmps e) (h:aF T.L q e H K KP):Good T.L g K KP ((execOp a.eval o).run T.L.P w):=by
 simp only[cOp,hop]at hq;obtain⟨ax,h1,rfl⟩:=map_some hq;simp only[execOp,hop];exact aP hs (bQ h1 hr) h
theorem Sd {o:Oper} {q:AOp} {x:_} (hop:o.op=.assign x) (hq:cOp T o=some q) (hs:St T.L g w H) (hr:dR T.L g n a.tmps e) (h:aF T.L q e H K KP):Good T.L g K KP ((execOp a.eval o).run T.L.P w):=by
 simp only[cOp,hop]at hq;obtain⟨ax,h1,rfl⟩:=map_some hq;simp only[execOp,hop];exact aP hs (bQ h1 hr) h
theorem Y2 {o:Oper} {q:AOp} {c:_} {x:_} {y:_} (hop:o.op=.pick c x y) (hq:cOp T o=some q) (hs:St T.L g w H) (hr:dR T.L g n a.tmps e) (h:aF T.L q e H K KP):Good T.L g K KP ((execOp a.eval o).run T.L.P w):=by
 simp only[cOp,hop]at hq;simp only[execOp,hop];cases hc:cX T c<;>cases hx:cX T x<;>cases hy:cX T y<;>simp only[hc,hx,hy]at hq<;>cases hq;rename_i ac ax ay;have h1:=bQ hc hr;simp only[aF]at h;cases hb:ev e ac<;>simp only[hb]at h;rename_i b;rw[hb]at h1;have h2:=kE h1
 have hrun:(do pure (Next.value (if←asBool (a.eval c)then a.eval x else a.eval y)):Sem Next).run T.L.P w=.ok (.value (if b then a.eval x else a.eval y)) w:=by
  rw[h2];simp[asBool]
 rw[hrun];refine aP hs ?_ h;cases b
 ·exact bQ hy hr
 ·exact bQ hx hr
theorem Wi {o:Oper} {q:AOp} {t:_} (hop:o.op=.alloc t) (hq:cOp T o=some q) (hs:St T.L g w H) (hr:dR T.L g n a.tmps e) (h:aF T.L q e H K KP):Good T.L g K KP ((execOp a.eval o).run T.L.P w):=by
  simp only[cOp,hop]at hq;simp only[execOp,hop]
  cases hi:T.L.P.info? t with
  |none=>simp only[hi]at hq;cases hq
  |some i=>
   cases htt:T.ty t with
   |none=>simp only[hi,htt]at hq;cases hq
   |some tt=>
    simp only[hi,htt]at hq
    cases hz:i.zero with
    |none=>simp only[hz]at hq;cases hq
    |some z=>
      simp only[hz]at hq;obtain⟨zs,h1,rfl⟩:=map_some hq;have hrep:aX T.L g z.cells.toList zs:=qA h1;obtain⟨g',k1,k2,k3⟩:=hs.box z.cells tt zs hrep;rw[Tab.w9 htt]at k2;refine bq (w':=w.alloc (.cells z.cells t)) (v:=.pointer (some ⟨w.heap.size,0,none⟩)) ?_ ⟨_,_,g',h,k1,k2,k3⟩;unfold Instr.alloc;simp[zeroValue,typeInfo,hi,hz,newVar,newRow]
theorem s_box {o:Oper} {q:AOp} {t:_} {x:_} (hop:o.op=.box t x) (hq:cOp T o=some q) (hs:St T.L g w H) (hr:dR T.L g n a.tmps e) (h:aF T.L q e H K KP):Good T.L g K KP ((execOp a.eval o).run T.L.P w):=by
 simp only[cOp,hop]at hq;cases htt:T.ty t<;>cases h1:cX T x<;>simp only[htt,h1]at hq<;>cases hq;rename_i tt ax;simp only[execOp,hop];have hrep:=pJ (bQ h1 hr) h.1;obtain⟨g',k1,k2,k3⟩:=hs.box (a.eval x).cells tt _ hrep;rw[Tab.w9 htt]at k2;refine bq (w':=w.alloc (.cells (a.eval x).cells t)) (v:=.pointer (some ⟨w.heap.size,0,none⟩)) ?_ ⟨_,_,g',h.2,k1,k2,k3⟩;unfold Instr.box;simp[newVar,newRow]
theorem Wd {o : Oper} {q : AOp} {t : _} {ps : _} (hop : o.op = .build t ps) (hq : cOp T o = some q) (hs : St T.L g w H) (hr : dR T.L g n a.tmps e) (h : aF T.L q e H K KP) : Good T.L g K KP ((execOp a.eval o).run T.L.P w) := by
 simp only [cOp, hop] at hq; simp only [execOp, hop]
 cases hu : T.L.P.underlying t with
 | none => simp only [hu] at hq; cases hq
 | some d =>
  cases d <;> simp only [hu] at hq <;> try (cases hq; done)
  rename_i fs
  cases hi : T.L.P.info? t with
  | none => simp only [hi] at hq; cases hq
  | some i =>
   simp only [hi] at hq
   cases hz : i.zero with
   | none => simp only [hz] at hq; cases hq
   | some z =>
    simp only [hz] at hq
    cases hzs : qB z.cells.toList with
    | none => simp only [hzs] at hq; cases hq
    | some zs =>
     cases hpl : T.places fs.toList with
     | none => simp only [hzs, hpl] at hq; cases hq
     | some places =>
      simp only [hzs, hpl] at hq
      obtain ⟨abJ, hps, rfl⟩ := map_some hq
      obtain ⟨l1, l2⟩ := zA hr ps.toList abJ hps
      obtain ⟨c1, c2⟩ := h
      obtain ⟨cur', f1, f2⟩ := xX (L := T.L) (g := g) (place := fun i => places.toArray[i]?) (ps.toList.map fun p => (p.1, a.eval p.2)) (abJ.map fun x => (x.1, x.2.1, ev e x.2.2)) z.cells zs (qA hzs) (by simpa using l1)
       (fun j p x hj hj' => by
        simp only [List.getElem?_map, Option.map_eq_some_iff] at hj hj'
        obtain ⟨p0, hp0, rfl⟩ := hj
        obtain ⟨x0, hx0, rfl⟩ := hj'
        obtain ⟨k1, k2⟩ := l2 j p0 x0 hp0 hx0
        obtain ⟨k3, k4⟩ := c1 x0 (List.mem_of_getElem? hx0)
        exact ⟨by simpa using k1, k2, k3, k4⟩)
      refine bq (w' := w) (v := .agg cur') ?_ (aP hs ?_ c2)
      ·have hpr := run_places (P := T.L.P) w fs.toList places hpl
       have hf : Instr.fill (fun x => places[x]?) z.cells (List.map (fun p => (p.1, a.eval p.2)) ps.toList) = some cur' := by simpa using f1
       unfold Instr.build
       simp [run_underlying hu, typeInfo, zeroValue, hi, hz, Array.mapM_eq_mapM_toList, hpr, hf]
      ·have := Rep.agg cur'.toList _ f2
       simpa [List.map_map, Function.comp_def] using this
theorem Ho {o : Oper} {q : AOp} {t : _} {len : _} {ps : _} (hop : o.op = .buildSlice t len ps) (hq : cOp T o = some q) (hs : St T.L g w H) (hr : dR T.L g n a.tmps e) (h : aF T.L q e H K KP) : Good T.L g K KP ((execOp a.eval o).run T.L.P w) := by
 simp only [cOp, hop] at hq; simp only [execOp, hop]
 cases hu : T.L.P.underlying t with
 | none => simp only [hu] at hq; cases hq
 | some d =>
  cases d <;> simp only [hu] at hq <;> try (cases hq; done)
  rename_i el
  cases hi : T.L.P.info? el with
  | none => simp only [hi] at hq; cases hq
  | some i =>
   simp only [hi] at hq
   cases hz : i.zero with
   | none => simp only [hz] at hq; cases hq
   | some z =>
    cases has : Av T 0 ps.toList with
    | none => simp only [hz, has] at hq; cases hq
    | some abJ =>
     simp only [hz, has] at hq
     split at hq
     ·rename_i hc
      obtain ⟨c1, c2, c3, c4⟩ := hc
      obtain ⟨l1, l2⟩ := zB hr ps.toList 0 abJ has
      obtain ⟨h1, h2⟩ : (∀ p ∈ abJ, jH i.size (ev e p.2)) ∧ (K (.lst (abJ.map fun p => ev e p.2) .full) H ∨ ∃ tt, T.ty el = some tt ∧ 0 < len ∧ K (.vec H.length abJ.length i.size 0 abJ.length) (H ++ [.arr abJ.length (abJ.map fun p => ev e p.2) tt])) := by
       split at hq
       ·cases htt : T.ty el with
        | none => simp only [htt] at hq; cases hq
        | some tt =>
         simp only [htt] at hq
         split at hq
         ·rename_i hpos
          cases hq
          exact ⟨h.1, .inr ⟨tt, rfl, hpos, h.2⟩⟩
         ·cases hq
       ·cases hq
        exact ⟨h.1, .inl h.2⟩
      clear h hq
      let zc := (Array.range (len * i.size)).map (z.cells[· % z.cells.size]!)
      have hzl : zc.toList.length = len * i.size := by simp [zc]
      obtain ⟨cur', f1, f2⟩ := xX (L := T.L) (g := g) (place := fun j => some (j * i.size, i.size)) (ps.toList.map fun p => (p.1, a.eval p.2)) (abJ.map fun x => (x.1 * i.size, i.size, ev e x.2)) zc (List.replicate zc.toList.length .undef) (YR _) (by simpa using l1)
       (fun j p x hj hj' => by
        simp only [List.getElem?_map, Option.map_eq_some_iff] at hj hj'
        obtain ⟨p0, hp0, rfl⟩ := hj
        obtain ⟨x0, hx0, rfl⟩ := hj'
        obtain ⟨k1, k1', k2⟩ := l2 j p0 x0 hp0 hx0
        have hok := h1 x0 (List.mem_of_getElem? hx0)
        have hx1 : x0.1 = p0.1 := by omega
        have hjl : j < abJ.length := by
         rcases Nat.lt_or_ge j abJ.length with h' | h'
         ·exact h'
         ·rw [List.getElem?_eq_none h'] at hx0; cases hx0
        refine ⟨by rw [hx1], k2, hok, ?_⟩
        rw [List.length_replicate, hzl, hx1, k1, Nat.zero_add, ← c1]
        have : (j + 1) * i.size ≤ abJ.length * i.size := Nat.mul_le_mul_right _ hjl
        rwa [Nat.succ_mul] at this)
      have hfa := Gi i.size (abJ.map fun x => (x.1 * i.size, ev e x.2)) 0 [] (List.replicate zc.toList.length .undef) (by simp) (by rw [List.length_replicate, hzl, List.length_map, c1])
       (fun j p hj => by
        simp only [List.getElem?_map, Option.map_eq_some_iff] at hj
        obtain ⟨x0, hx0, rfl⟩ := hj
        have hjl : j < ps.toList.length := by
         rcases Nat.lt_or_ge j abJ.length with h' | h'
         ·omega
         ·rw [List.getElem?_eq_none h'] at hx0; cases hx0
        obtain ⟨k1, k1', k2⟩ := l2 j ps.toList[j] x0 (List.getElem?_eq_getElem hjl) hx0
        exact ⟨by rw [k1'], (h1 x0 (List.mem_of_getElem? hx0)).1⟩)
      simp only [List.nil_append, List.map_map, Function.comp_def] at hfa f2
      rw [hfa] at f2
      have hxs : (abJ.map fun p => ev e p.2).length = len := by rw [List.length_map, c1]
      have hkx : ∀ x ∈ abJ.map fun p => ev e p.2, x.cells.length = i.size := fun x hx => by
       simp only [List.mem_map] at hx
       obtain ⟨p, hp, rfl⟩ := hx
       exact (h1 p hp).1
      have hfin : ∃ x H' g', K x H' ∧ g.le g' ∧ St T.L g' (w.alloc (.cells cur' el)) H' ∧ Rep T.L g' (.slice (some ⟨w.heap.size, 0, none⟩) len len) x := by
       rcases h2 with h2 | ⟨tt, htt, hpos, h2⟩
       ·obtain ⟨g', k1, k2, k3⟩ := hs.literal cur' el (abJ.map fun p => ev e p.2) i.size hkx f2
        exact ⟨_, _, g', h2, k1, k2, by rw [hxs] at k3; exact k3⟩
       ·have hel := Tab.w9 htt
        have hfl := f2.length
        rw [iw hkx, hxs] at hfl
        obtain ⟨g', k1, k2, k3⟩ := hs.SA cur' tt (abJ.map fun p => ev e p.2) i.size len c4 hkx (by rw [hxs]; exact Nat.le_refl _) (by simpa using hfl) (by
         rw [hxs, List.take_of_length_le (by rw [hfl]; exact Nat.le_refl _)]
         exact f2)
        rw [hxs] at k2 k3
        rw [c1] at h2
        rw [hel] at k2
        exact ⟨_, _, g', h2, k1, k2, k3⟩
      refine bq (w' := w.alloc (.cells cur' el)) (v := .slice (some ⟨w.heap.size, 0, none⟩) len len) ?_ hfin
      by_cases hpos : len * i.size = 0
      ·have hl0 : len = 0 := by
        rcases Nat.eq_zero_or_pos len with h' | h'
        ·exact h'
        ·exact absurd hpos (Nat.ne_of_gt (Nat.mul_pos h' c4))
       have hp0 : ps = #[] := by
        apply Array.ext'
        exact List.eq_nil_of_length_eq_zero (by rw [l1, c1, hl0])
       have hc0 : cur' = #[] := by
        have hzc : zc = #[] := by simp [zc, hpos]
        rw [hp0, hzc] at f1
        simpa [Instr.fill] using f1.symm
       subst hp0
       rw [hc0]
       have hsm : ¬ (len * i.size > 2 ^ 24) := by omega
       unfold Instr.buildSlice
       simp [run_underlying hu, sizeOf, typeInfo, hi, hpos, Instr.fill, newRow]
       simp only [Array.range_zero', Array.map_empty]
      ·have hlist : (ps.map fun (i, x) => (i, a.eval x)).toList = ps.toList.map fun p => (p.1, a.eval p.2) := by simp
       have YE : Instr.fill (fun j => some (j * i.size, i.size)) ((Array.range (len * i.size)).map (z.cells[· % z.cells.size]!)) (ps.map fun (i, x) => (i, a.eval x)).toList = some cur' := by
        rw [hlist]; exact f1
       have hsm : ¬ len * i.size > 16777216 := by omega
       clear hfa f1 f2 hfin h2 l1 l2 hlist hxs
       clear_value zc
       have hsm2 : ¬ 16777216 < len * i.size := by omega
       unfold Instr.buildSlice
       simp [run_underlying hu, sizeOf, typeInfo, zeroValue, hi, hz, hsm2, hpos]
       simp at YE
       simp [YE, newRow]
     ·cases hq
theorem Y5 {o:Oper} {q:AOp} {t:_} {x:_} (hop:o.op=.load t x) (hq:cOp T o=some q) (hs:St T.L g w H) (hr:dR T.L g n a.tmps e) (h:aF T.L q e H K KP):Good T.L g K KP ((execOp a.eval o).run T.L.P w):=by
 simp only[cOp,hop]at hq;simp only[execOp,hop]
 cases hk:T.agg t with
 |none=>simp only[hk]at hq;cases hq
 |some k=>
  cases hx:cX T x with
  |none=>simp only[hk,hx]at hq;cases hq
  |some ax=>
   simp only[hk,hx]at hq;cases hq;simp only[aF]at h
   cases hl:loadAt H k (ev e ax)with
   |none=>simp only[hl]at h
   |some y=>
    simp only[hl]at h;obtain⟨z,h1,h2⟩:=Dx hs hk hl (bQ hx hr);exact bq h1 (aP hs h2 h)
theorem VX {o:Oper} {q:AOp} {t:_} {x:_} {y:_} (hop:o.op=.store t x y) (hq:cOp T o=some q) (hs:St T.L g w H) (hr:dR T.L g n a.tmps e) (h:aF T.L q e H K KP):Good T.L g K KP ((execOp a.eval o).run T.L.P w):=by
 simp only[cOp,hop]at hq;simp only[execOp,hop]
 cases hi:T.L.P.info? t with
 |none=>simp only[hi]at hq;cases hq
 |some i=>
  cases hx:cX T x<;>cases hy:cX T y<;>simp only[hi,hx,hy]at hq<;>cases hq;rename_i ax ay;simp only[aF]at h;obtain⟨hok,h⟩:=h
  cases hl:storeAt H i.size (ev e ax) (ev e ay)with
  |none=>simp only[hl]at h
  |some H'=>
   simp only[hl]at h;obtain⟨w',h1,h2⟩:=Jr hs hi hok hl (bQ hx hr) (bQ hy hr);exact Am h1 ⟨H',g,h,aA.le.refl g,h2⟩
theorem Mq {o:Oper} {q:AOp} {x:_} (hop:o.op=.nilCheck x) (hq:cOp T o=some q) (hs:St T.L g w H) (hr:dR T.L g n a.tmps e) (h:aF T.L q e H K KP):Good T.L g K KP ((execOp a.eval o).run T.L.P w):=by
 simp only[cOp,hop]at hq;obtain⟨ax,h1,rfl⟩:=map_some hq;simp only[execOp,hop];have hx:=bQ h1 hr;simp only[aF]at h;generalize a.eval x=v at hx⊢;generalize ev e ax=y at hx h;cases y<;>try exact h.elim
 ·cases hx with
  |ptr id off s h1 h2=>exact aP hs (.ptr _ _ _ h1 h2) h
 ·cases hx with
  |lZ b o vs cs hf hr'=>exact aP hs (.lZ b o vs _ hf hr') h
 ·cases hx with
  |jv id ver off s h1=>exact aP hs (.jv _ _ _ _ h1) h
theorem Hq {op:BinOp} (hop:op=.eql∨op=.neq) {t:Nat} {x y:Operand} {v u:Value} {b:Bool} (h1:(Op.equal t v u).run T.L.P w=.ok b w) (h2:(eqGuard op t x y v u).run T.L.P w=.ok () w)
  (h3:Go.binOp .eql t v u=(do pure (.bool (←Op.equal t v u)))) (h4:Go.binOp .neq t v u=(do pure (.bool (!(←Op.equal t v u))))):
  (do eqGuard op t x y v u;Go.binOp op t v u:Sem Value).run T.L.P w=.ok (.bool (b !=DT op)) w:=by
 rw[Sem.run_bind,h2];rcases hop with rfl|rfl
 ·rw[Result.andThen_ok,h3,Sem.run_bind,h1];simp[DT]
 ·rw[Result.andThen_ok,h4,Sem.run_bind,h1];simp[DT]
theorem QE {g : aA} {t k : Nat} {y : Operand} (hy : Ov T t y = some k) {v : Value} {x : au} {b : Bool} (hx : Rep T.L g v x) (hb : isNil k x = some b) (xo : Operand) (op : BinOp) (hop : op = .eql ∨ op = .neq) :
    (do eqGuard op t xo y v (a.eval y); Go.binOp op t v (a.eval y) : Sem Value).run T.L.P w = .ok (.bool (b != DT op)) w := by
  unfold Ov at hy
  split at hy <;> try (cases hy; done)
  all_goals
    split at hy <;> try (cases hy; done)
    rename_i hu
    cases hy
    unfold isNil at hb
    split at hb <;> try (cases hb; done)
    all_goals first | contradiction | skip
    all_goals cases hb
    all_goals cases hx
    all_goals first
      | (rename oz g _ _ _ _ Tok.nil => hT
         obtain ⟨h1, h2⟩ := hT
         subst h1)
      | (rename (_ ≠ [] → _) => hT
         have hT := hT (by simp)
         subst hT)
      | skip
    all_goals refine Hq hop ?_ ?_ rfl rfl
    all_goals first
      | (show (Op.equalIn (9999 + 1) t _ _).run T.L.P w = _
         generalize 9999 = dd
         simp [Op.equalIn, run_underlying hu, Act.eval])
      | (rcases hop with rfl | rfl <;> simp [eqGuard, Act.eval])
      | skip
theorem Vp (a b:List UInt8):((⟨a.toArray⟩:ByteArray).toList==(⟨b.toArray⟩:ByteArray).toList)=(a==b):=by
 rw[ByteArray.toList_eq,ByteArray.toList_eq]
theorem K3 {ks : List Nat} {xs ys : List au} {b : Bool} (h : bT (0 :: ks) xs ys = some b) : ∃ k a1 b1 xs' ys' r, xs = .int k a1 :: xs' ∧ ys = .int k b1 :: ys' ∧ bT ks xs' ys' = some r ∧ b = (a1 == b1 && r) := by
  match xs, ys with
  | .int k a :: xs', .int k' b' :: ys' =>
    simp only [bT] at h
    split at h
    · rename_i hk
      subst hk
      obtain ⟨r, h1, h2⟩ := map_some h
      exact ⟨k, a, b', xs', ys', r, rfl, rfl, h1, h2⟩
    · cases h
  | [], _ => simp [bT] at h
  | x :: _, [] => cases x <;> simp [bT] at h
  | x :: _, y :: _ => cases x <;> cases y <;> first | contradiction | (simp [bT] at h; done) | skip
                      rename_i k a k' b'
                      simp only [bT] at h
                      split at h
                      · rename_i hk
                        subst hk
                        obtain ⟨r, h1, h2⟩ := map_some h
                        exact ⟨k, a, b', _, _, r, rfl, rfl, h1, h2⟩
                      · cases h
theorem KZ {ks : List Nat} {xs ys : List au} {b : Bool} (h : bT (1 :: ks) xs ys = some b) : ∃ a1 b1 xs' ys' r, xs = .str a1 :: xs' ∧ ys = .str b1 :: ys' ∧ bT ks xs' ys' = some r ∧ b = (a1 == b1 && r) := by
  match xs, ys with
  | .str a :: xs', .str b' :: ys' =>
    simp only [bT] at h
    obtain ⟨r, h1, h2⟩ := map_some h
    exact ⟨a, b', xs', ys', r, rfl, rfl, h1, h2⟩
  | [], _ => simp [bT] at h
  | x :: _, [] => cases x <;> simp [bT] at h
  | x :: _, y :: _ => cases x <;> cases y <;> first | contradiction | (simp [bT] at h; done) | skip
                      rename_i a b'
                      simp only [bT] at h
                      obtain ⟨r, h1, h2⟩ := map_some h
                      exact ⟨a, b', _, _, r, rfl, rfl, h1, h2⟩
theorem II {ks : List Nat} {xs ys : List au} {b : Bool} (h : bT (2 :: ks) xs ys = some b) : ∃ a1 b1 xs' ys' r, xs = .bool a1 :: xs' ∧ ys = .bool b1 :: ys' ∧ bT ks xs' ys' = some r ∧ b = (a1 == b1 && r) := by
  match xs, ys with
  | .bool a :: xs', .bool b' :: ys' =>
    simp only [bT] at h
    obtain ⟨r, h1, h2⟩ := map_some h
    exact ⟨a, b', xs', ys', r, rfl, rfl, h1, h2⟩
  | [], _ => simp [bT] at h
  | x :: _, [] => cases x <;> simp [bT] at h
  | x :: _, y :: _ => cases x <;> cases y <;> first | contradiction | (simp [bT] at h; done) | skip
                      rename_i a b'
                      simp only [bT] at h
                      obtain ⟨r, h1, h2⟩ := map_some h
                      exact ⟨a, b', _, _, r, rfl, rfl, h1, h2⟩
theorem vP {g:aA} {d:Nat}:∀(fs:List Field) (n:Nat) (ks:List Nat),nZ T n fs=some ks→∀(vs us:List Value) (xs ys:List au) (b:Bool),aX T.L g vs xs→aX T.L g us ys→
  bT ks (xs.drop n) (ys.drop n)=some b→(Op.eqFields (d+1) vs.toArray us.toArray fs).run T.L.P w=.ok b w
 |[],n,ks,hp,vs,us,xs,ys,b,hv,hu,h=>by
  cases hp;unfold bT at h;split at h<;>simp_all[Op.eqFields]
 |f::fs,n,ks,hp,vs,us,xs,ys,b,hv,hu,h=>by
  simp only[nZ]at hp;split at hp<;>try(cases hp;done)
  rename_i hcond;obtain⟨hn,hnm⟩:=hcond
  cases hd:T.L.P.underlying f.type with
  |none=>simp only[hd]at hp;cases hp
  |some dd=>
   cases hpf:nZ T (n+1) fs with
   |none=>simp only[hd,hpf]at hp;cases dd<;>cases hp
   |some ks'=>
    have hagg:((∃k,dd=.int k)∨dd=.string∨dd=.bool)→(isAgg f.type).run T.L.P w=.ok false w:=by
     intro hd2;unfold isAgg;rw[Sem.run_bind,run_underlying hd];rcases hd2 with⟨k,rfl⟩|rfl|rfl<;>rfl
    have step:∀(x y:au) (xs' ys':List au) (r b':Bool),((∃k,dd=.int k)∨dd=.string∨dd=.bool)→xs.drop n=x::xs'→ys.drop n=y::ys'→(∀v u,Rep T.L g v x→Rep T.L g u y→(Op.equalIn (d+1) f.type v u).run T.L.P w=.ok r w)→
      bT ks' xs' ys'=some b'→b=(r&&b')→(Op.eqFields (d+1) vs.toArray us.toArray (f::fs)).run T.L.P w=.ok b w:=by
     intro x y xs' ys' r b' hdd hx hy hr hb' hbb
     have hxn:xs[n]?=some x:=by
      have:(xs.drop n)[0]?=some x:=by rw[hx];rfl
      simpa using this
     have hyn:ys[n]?=some y:=by
      have:(ys.drop n)[0]?=some y:=by rw[hy];rfl
      simpa using this
     have hx':xs'=xs.drop (n+1):=by
      have:=congrArg (List.drop 1) hx;rw[List.drop_drop]at this;simpa using this.symm
     have hy':ys'=ys.drop (n+1):=by
      have:=congrArg (List.drop 1) hy;rw[List.drop_drop]at this;simpa using this.symm
     obtain⟨v,hv1,hv2⟩:=hv.at n x hxn;obtain⟨u,hu1,hu2⟩:=hu.at n y hyn;have hpv:(part f.type vs.toArray f.offset).run T.L.P w=.ok v w:=by simp[part,hagg hdd,hn,hv1]
     have hpu:(part f.type us.toArray f.offset).run T.L.P w=.ok u w:=by simp[part,hagg hdd,hn,hu1]
     have ih:=vP (d:=d) fs (n+1) ks' hpf vs us xs ys b' hv hu (by rw[←hx',←hy'];exact hb');simp only[Op.eqFields,if_pos hnm,Sem.run_bind,hpv,hpu,hr v u hv2 hu2,Result.andThen_ok];cases r
     ·simp[hbb]
     ·simpa[hbb]using ih
    generalize hx:xs.drop n=xs0 at h;generalize hy:ys.drop n=ys0 at h;cases dd<;>simp only[hd,hpf]at hp<;>cases hp
    ·obtain⟨a1,b1,xs',ys',r,rfl,rfl,h1,h2⟩:=II h
     refine step _ _ xs' ys' (a1==b1) r (by simp) hx hy (fun v u q1 q2=>?_) h1 h2;rw[kE q1,kE q2];exact run_equalIn_bool' w d f.type a1 b1 hd
    ·obtain⟨k,a1,b1,xs',ys',r,rfl,rfl,h1,h2⟩:=K3 h
     refine step _ _ xs' ys' (a1==b1) r (by simp) hx hy (fun v u q1 q2=>?_) h1 h2;rw[gG q1,gG q2];exact run_equalIn_int w d f.type k _ a1 b1 hd
    ·obtain⟨a1,b1,xs',ys',r,rfl,rfl,h1,h2⟩:=KZ h
     refine step _ _ xs' ys' (a1==b1) r (by simp) hx hy (fun v u q1 q2=>?_) h1 h2;rw[iQ q1,iQ q2,run_equalIn_string w d f.type _ _ hd,Vp]
theorem Wh {o:Oper} {q:AOp} {op:_} {t:_} {x:_} {y:_} {ty:_} (hop:o.op=.binOp op t x y ty) (hq:cOp T o=some q) (hs:St T.L g w H) (hr:dR T.L g n a.tmps e) (h:aF T.L q e H K KP):Good T.L g K KP ((execOp a.eval o).run T.L.P w):=by
 simp only[cOp,hop]at hq;simp only[execOp,hop]
 cases hce:cEq T op t x y with
 |none=>
  simp only[hce]at hq;cases hx:cX T x<;>cases hy:cX T y<;>simp only[hx,hy]at hq<;>cases hq;rename_i ax ay;simp only[aF]at h
  cases hb:Ec op (ev e ax) (ev e ay)with
  |none=>simp only[hb]at h
  |some r=>
   simp only[hb]at h;obtain⟨z,k1,k2⟩:=KY (P:=T.L.P) (w:=w) t x y hb (bQ hx hr) (bQ hy hr);exact bq k1 (aP hs k2 h)
 |some q'=>
  simp only[hce]at hq;cases hq;unfold cEq at hce;split at hce
  ·rename_i hop'
   cases hn:Ov T t y with
   |some k=>
    simp only[hn]at hce;obtain⟨ax,h1,rfl⟩:=map_some hce;simp only[aF]at h;cases hb:isNil k (ev e ax)<;>simp only[hb]at h;exact bq (QE hn (bQ h1 hr) hb x op hop') (aP hs (.bool _) h)
   |none=>
    simp only[hn]at hce
    cases hx:cX T x with
    |none=>simp only[hx]at hce;cases hce
    |some ax=>
     cases hy:cX T y with
     |none=>simp only[hx,hy]at hce;cases hce
     |some ay=>
      simp only[hx,hy]at hce;have hrx:=bQ hx hr;have hry:=bQ hy hr
      cases hu:T.L.P.underlying t with
      |none=>simp only[hu]at hce;cases hce
      |some d=>
       cases d<;>simp only[hu]at hce<;>try(cases hce;done)
       ·cases hce
        simp only[aF]at h;cases hb1:ev e ax<;>cases hb2:ev e ay<;>simp only[hb1,hb2]at h;rename_i b1 b2;rw[hb1]at hrx;rw[hb2]at hry;rw[kE hrx,kE hry];refine bq (Hq hop' (run_equalIn_bool' w 9999 t b1 b2 hu) ?_ rfl rfl) (aP hs (.bool _) h);rw[eqGuard_at_bool];rfl
       ·rename_i fs
        split at hce
        ·rename_i hc
         obtain⟨ks,hks,rfl⟩:=map_some hce;simp only[aF]at h;cases hb1:ev e ax<;>cases hb2:ev e ay<;>simp only[hb1,hb2]at h;rename_i xs ys;cases hb:bT ks xs ys<;>simp only[hb]at h;rw[hb1]at hrx;rw[hb2]at hry;generalize a.eval x=v at hrx⊢;generalize a.eval y=u at hry⊢
         cases hrx with
         |agg vs _ hv=>
          cases hry with
          |agg us _ hu'=>
           have hfo:T.L.P.fieldsOf t=fs:=by simp[Program.fieldsOf,hu]
           refine bq (Hq hop' ?_ (run_eqGuard_agg w op t x y _ _ hc.2) rfl rfl) (aP hs (.bool _) h);unfold Op.equal;rw[show Op.maxDepth=9998+1+1 from rfl,run_equalIn_struct w 9999 t _ _ (by rw[hfo];exact hu) hc.1,hfo];exact vP fs.toList 0 ks hks vs us xs ys _ hv hu' (by simpa using hb)
        ·cases hce
  ·cases hce
theorem Y1 {o:Oper} {q:AOp} {op:_} {t:_} {x:_} (hop:o.op=.unOp op t x) (hq:cOp T o=some q) (hs:St T.L g w H) (hr:dR T.L g n a.tmps e) (h:aF T.L q e H K KP):Good T.L g K KP ((execOp a.eval o).run T.L.P w):=by
 simp only[cOp,hop]at hq;obtain⟨ax,h1,rfl⟩:=map_some hq;simp only[execOp,hop];simp only[aF]at h
 cases hb:Ri op (ev e ax)with
 |none=>simp only[hb]at h
 |some r=>
  simp only[hb]at h;obtain⟨z,k1,k2⟩:=Np (P:=T.L.P) (w:=w) hb (bQ h1 hr);exact bq k1 (aP hs k2 h)
theorem Rs {g:aA} {src:TypeId} {el:TypeId} (hsu:T.L.P.underlying src=some (.slice el)) (hel:T.L.P.underlying el=some (.int .u8)) {dst:TypeId} (hdu:T.L.P.underlying dst=some .string) (hs:St T.L g w H) {v:Value} {xs:List au} {tk:Tok} {s:List UInt8} (hr:Rep T.L g v (.lst xs tk)) (hb:jT xs=some s):
  (convert src dst v).run T.L.P w=.ok (.string ⟨s.toArray⟩) w:=by
 obtain⟨ad,c,k,b,off,vs,rfl,ha,hf,hk,hc,ht,hrep⟩:=lS hr;have hxs:=wO xs s hb;subst hxs;have hvs:=Aw hrep;have hln:(je s).length=s.length:=by simp[je]
 cases s with
 |nil=>
  cases ad with
  |none=>exact run_convert_bytes_nil w src el hsu hel _ _ dst hdu
  |some ad=>
   rw[run_convert_bytes_string w src dst el _ _ _ hsu hel hdu];have:=run_bytesToString (P:=T.L.P) w ad 0 c [] (by simp[loadCells,loadCellsFrom]);exact this
 |cons x s=>
  have had:=ha (by simp[je]);subst had;have:=run_convert_bytes_arg (P:=T.L.P) w src el hsu hel b off (je (x::s)).length c ((x::s).map fun b=>(b.toNat:Int)) (by rw[List.length_map,hln]) (fun i hi=>?_) dst hdu
  ·have e2:strOfNums ((x::s).map fun b:UInt8=>(b.toNat:Int))=⟨(x::s).toArray⟩:=by
    have e3:∀l:List UInt8,(l.map fun b:UInt8=>(b.toNat:Int)).map (fun n=>UInt8.ofNat n.toNat)=l:=by
     intro l
     induction l with
     |nil=>rfl
     |cons b l ih=>simp only[List.map_cons,ih];simp
    unfold strOfNums;rw[e3]
   rw[this,e2]
  ·rw[hln]at hi
   refine hs.fz _ _ _ (hf i _ ?_);rw[hvs];simp only[List.getElem?_map,List.getElem?_eq_getElem hi,Option.map_some,List.getD_eq_getElem?_getD,Option.getD_some]
theorem Rt {g:aA} {src:TypeId} {el:TypeId} (hsu:T.L.P.underlying src=some (.slice el)) (hel:T.L.P.underlying el=some (.int .u8)) {dst:TypeId} (hdu:T.L.P.underlying dst=some .string) (hs:St T.L g w H) {v:Value} {id k off len:Nat} {cs:List au} {tt:Nat} {s:List UInt8}
  (hr:Rep T.L g v (.arr id k off len)) (hH:H[id]?=some (.cells cs tt)) (hle:off+len≤cs.length) (hb:jT ((cs.drop off).take len)=some s):
  (convert src dst v).run T.L.P w=.ok (.string ⟨s.toArray⟩) w:=by
 cases hr with
 |arr _ _ _ _ c sp h h0 hc=>
  obtain⟨s0,row,e1,e2,e3,e4,_⟩:=hs.obj id _ hH;rw[h]at e1;cases e1;have hxs:=wO _ s hb;have hrep:=(e4.drop off).take len;rw[hxs,←yh]at hrep;have hvs:=Aw hrep
  have hln:s.length=len:=by
   have:(je s).length=s.length:=by simp[je]
   rw[←this,←hxs];simp;omega
  have hcell:∀i,i<len→w.cell? ⟨sp.b,off+i,none⟩=some (.int .u8 ((s.map fun b=>(b.toNat:Int)).getD i 0)):=fun i hi=>by
   have h1:((row.toList.drop off).take len)[i]?=some (.int .u8 ((s.map fun b=>(b.toNat:Int)).getD i 0)):=by
    rw[hvs];simp only[List.getElem?_map,List.getElem?_eq_getElem (show i<s.length by omega),Option.map_some,List.getD_eq_getElem?_getD,Option.getD_some]
   rw[List.getElem?_take,if_pos hi,List.getElem?_drop]at h1;simp only[World.cell?,e3];simpa using h1
  have:=run_convert_bytes_arg (P:=T.L.P) w src el hsu hel sp.b off len c (s.map fun b=>(b.toNat:Int)) (by rw[List.length_map,hln]) hcell dst hdu
  have e2:strOfNums (s.map fun b:UInt8=>(b.toNat:Int))=⟨s.toArray⟩:=by
   have e3:∀l:List UInt8,(l.map fun b:UInt8=>(b.toNat:Int)).map (fun n=>UInt8.ofNat n.toNat)=l:=by
    intro l
    induction l with
    |nil=>rfl
    |cons b l ih=>simp only[List.map_cons,ih];simp
   unfold strOfNums;rw[e3]
  rw[this,e2]
theorem reps {L:Lnk} {v:Value} {x:au} (h:Rep L g v x):∀n,aX L g (List.replicate n v) (List.replicate n x)
 |0=>.nil
 |n+1=>.cons _ _ _ _ h (reps h n)
theorem EO (v:Value) (n:Nat):(madeCells #[v] n).toList=List.replicate n v:=by
 simp only[madeCells,Array.toList_map,Array.toList_range];apply List.ext_getElem
 ·simp
 ·intro i h1 h2
  simp[Nat.mod_one]
theorem JB {o:Oper} {q:AOp} {t:_} {x y:_} (hop:o.op=.makeSlice t x y) (hq:cOp T o=some q) (hs:St T.L g w H) (hr:dR T.L g n a.tmps e) (h:aF T.L q e H K KP):Good T.L g K KP ((execOp a.eval o).run T.L.P w):=by
 simp only[cOp,hop]at hq;simp only[execOp,hop];cases x<;>cases y<;>simp only at hq<;>try(cases hq;done)
 rename_i i j;split at hq
 ·rename_i hij
  subst hij
  cases hu:T.L.P.underlying t with
  |none=>simp only[hu]at hq;cases hq
  |some d=>
   cases d<;>simp only[hu]at hq<;>try(cases hq;done)
   rename_i el
   cases hi:T.L.P.info? el with
   |none=>simp only[hi]at hq;cases hq
   |some inf=>
    cases htt:T.ty el with
    |none=>simp only[hi,htt]at hq;cases hq
    |some te=>
     simp only[hi,htt]at hq
     cases hz:inf.zero with
     |none=>simp only[hz]at hq;cases hq
     |some z=>
      simp only[hz]at hq;split at hq
      ·rename_i hc
       obtain⟨c1,c2,c3⟩:=hc
       cases hzs:qB z.cells.toList with
       |none=>simp only[hzs]at hq;cases hq
       |some zs=>
        match zs,hzs with
        |[],hzs=>simp only[hzs]at hq;cases hq
        |_::_::_,hzs=>simp only[hzs]at hq;cases hq
        |[av],hzs=>
         simp only[hzs]at hq;cases hq;have hrep:aX T.L g z.cells.toList [av]:=qA hzs
         obtain⟨v0,hv0⟩:∃v0,z.cells.toList=[v0]:=by
          have hl:=hrep.length
          match hzl:z.cells.toList,hl with
          |[v0],_=>exact⟨v0,rfl⟩
         have hzc:z.cells= #[v0]:=by
          apply Array.ext';rw[hv0]
         rw[hv0]at hrep;have hr0:Rep T.L g v0 av:=by cases hrep with|cons _ _ _ _ h _=>exact h
         simp only[aF]at h;have hri:=hr.rep i;have hev:ev e (.tmp i)=e i:=rfl;rw[hev]at h;cases hei:e i<;>simp only[hei]at h;rename_i kk m;rw[hei]at hri;have hval:=gG hri;obtain⟨⟨h0,h40⟩,h⟩:=h
         have hrun:=run_make (P:=T.L.P) w t el inf z hu hi hz kk kk m m h0 (Int.le_refl _) (by
          have:(inf.bytes:Int)*m≤256*2^40:=Int.mul_le_mul (by omega) h40 h0 (by decide)
          omega) (by omega)
         obtain⟨g',k1,k2,k3⟩:=hs.box (madeCells z.cells (m.toNat*inf.size)) te (List.replicate m.toNat av) (by
          rw[hzc,c1,Nat.mul_one,EO]
          exact reps hr0 _)
         rw[Tab.w9 htt]at k2
         have hsp:∃sp:ko,g'.ob H.length 0=some sp∧sp.s=0∧sp.b=w.heap.size:=by
          generalize hvp:Value.pointer (some ⟨w.heap.size,0,none⟩)=vp at k3
          cases k3 with
          |ptr _ _ sp q1 q2=>
           injection hvp with hvp
           injection hvp with hvp
           injection hvp with hvp
           exact⟨sp,q1,q2,hvp.symm⟩
         obtain⟨sp,q1,q2,q3⟩:=hsp;refine bq (w':=w.alloc (.cells (madeCells z.cells (m.toNat*inf.size)) el)) (v:=.slice (some ⟨w.heap.size,0,none⟩) m.toNat m.toNat) ?_ ⟨_,_,g',h,k1,k2,?_⟩
         ·show(Instr.makeSlice t (a.eval (.tmp i)) (a.eval (.tmp i))).run T.L.P w=_
          rw[show a.eval (.tmp i)=a.tmps.getD i undef from rfl,hval];exact hrun
         ·rw[←q3]
          exact .arr H.length 1 0 m.toNat m.toNat sp q1 q2 (Nat.le_refl _)
      ·cases hq
 ·cases hq
theorem Qg {o:Oper} {q:AOp} {s:_} {d:_} {x:_} (hop:o.op=.convert s d x) (hq:cOp T o=some q) (hs:St T.L g w H) (hr:dR T.L g n a.tmps e) (h:aF T.L q e H K KP):Good T.L g K KP ((execOp a.eval o).run T.L.P w):=by
 simp only[cOp,hop]at hq;simp only[execOp,hop]
 cases hsu:T.L.P.underlying s with
 |none=>simp only[hsu]at hq;cases hq
 |some ds=>
  cases hdu:T.L.P.underlying d with
  |none=>simp only[hsu,hdu]at hq;cases ds<;>cases hq
  |some dd=>
   cases hx:cX T x with
   |none=>simp only[hsu,hdu,hx]at hq;cases ds<;>cases dd<;>cases hq
   |some ax=>
    have hrx:=bQ hx hr
    have hint:∀k,dd=.int k→q=.pz k ax→Good T.L g K KP ((do pure (Next.value (←Go.convert s d (a.eval x))):Sem Next).run T.L.P w):=by
     rintro k rfl rfl
     simp only[aF]at h;cases hb:ev e ax<;>simp only[hb]at h;rw[hb]at hrx;refine bq (w':=w) ?_ (aP hs (.int _ _) h);rw[gG hrx];unfold Go.convert;simp[run_underlying hsu,run_underlying hdu,Conv.intToInt]
    have hstr:dd=.string→q=.wN ax→Good T.L g K KP ((do pure (Next.value (←Go.convert s d (a.eval x))):Sem Next).run T.L.P w):=by
     rintro rfl rfl
     simp only[aF]at h;cases hb:ev e ax<;>simp only[hb]at h;rw[hb]at hrx;refine bq (w':=w) ?_ (aP hs (.str _) h);rw[iQ hrx];unfold Go.convert;simp[run_underlying hsu,run_underlying hdu]
    cases dd with
    |int k=>cases ds<;>simp only[hsu,hdu,hx]at hq<;>cases hq<;>exact hint k rfl rfl
    |string=>
     cases ds with
     |slice el=>
      simp only[hsu,hdu,hx]at hq
      cases hel:T.L.P.underlying el with
      |none=>simp only[hel]at hq;cases hq
      |some de=>
       cases de with
       |int ki=>
        cases ki<;>simp only[hel]at hq<;>try(cases hq;done)
        split at hq
        ·cases hq
         simp only[aF]at h;cases hb:ev e ax<;>simp only[hb]at h;rename_i id k off len
         cases hH:H[id]? with
         |none=>rw[hH]at h;exact h.elim
         |some ob=>
          cases ob<;>simp only[hH]at h;rename_i cs tt;obtain⟨hle,h⟩:=h;cases hb2:jT ((cs.drop off).take len)<;>simp only[hb2]at h;rw[hb]at hrx;exact bq (Rt hsu hel hdu hs hrx hH hle hb2) (aP hs (.str _) h)
        ·cases hq
         simp only[aF]at h;cases hb:ev e ax<;>simp only[hb]at h;rename_i xs tk;cases hb2:jT xs<;>simp only[hb2]at h;rw[hb]at hrx;exact bq (Rs hsu hel hdu hs hrx hb2) (aP hs (.str _) h)
       |_=>simp only[hel]at hq;cases hq
     |_=>simp only[hsu,hdu,hx]at hq<;>cases hq<;>exact hstr rfl rfl
    |_=>cases ds<;>simp only[hsu,hdu,hx]at hq<;>cases hq
theorem BL {o:Oper} {q:AOp} {t:_} {x:_} (hop:o.op=.makeInterface t x) (hq:cOp T o=some q) (hs:St T.L g w H) (hr:dR T.L g n a.tmps e) (h:aF T.L q e H K KP):Good T.L g K KP ((execOp a.eval o).run T.L.P w):=by
 simp only[cOp,hop]at hq;simp only[execOp,hop]
 cases hu:T.L.P.underlying t with
 |none=>simp only[hu]at hq;cases hq
 |some d=>
  cases ht:T.ty t with
  |none=>cases d<;>simp only[hu,ht]at hq<;>cases hq
  |some tt=>
   cases hx:cX T x with
   |none=>cases d<;>simp only[hu,ht,hx]at hq<;>cases hq
   |some ax=>
    have htt:t=T.L.ty tt:=by
     unfold Tab.ty at ht;split at ht
     ·rename_i hh;cases ht;exact hh.symm
     ·cases ht
    have hg:Good T.L g K KP (.ok (.value (.iface t (a.eval x))) w)→Good T.L g K KP ((do pure (Next.value (←Instr.makeInterface t (a.eval x))):Sem Next).run T.L.P w):=by
     refine fun hh=>bq ?_ hh
     unfold Instr.makeInterface;rw[Sem.run_bind,run_underlying hu];cases d<;>first|rfl|(simp only[hu,ht,hx]at hq;cases hq)
    have hq':q=.mkI tt ax:=by cases d<;>simp only[hu,ht,hx]at hq<;>cases hq<;>rfl
    subst hq';refine hg (aP hs ?_ h);rw[htt];exact .iface _ _ _ (bQ hx hr)
theorem Mr {o:Oper} {q:AOp} {fn:_} {fi:_} {ca:_} (hop:o.op=.makeFunc fn fi ca) (hq:cOp T o=some q) (hs:St T.L g w H) (hr:dR T.L g n a.tmps e) (h:aF T.L q e H K KP):Good T.L g K KP ((execOp a.eval o).run T.L.P w):=by
 cases fn<;>simp only[cOp,hop]at hq<;>try(cases hq;done)
 rename_i f;simp only[execOp,hop]
 cases hf:T.fn f with
 |none=>simp only[hf]at hq;cases hq
 |some k=>
  cases h1:cXs T fi.toList<;>cases h2:cXs T ca.toList<;>simp only[hf,h1,h2]at hq<;>cases hq;rename_i afi aca;refine bq (w':=w) (v:=.func (.func f) (fi.map a.eval) (ca.map a.eval)) rfl (aP hs ?_ h);have:=Rep.fn (L:=T.L) (g:=g) (.func f) (.func k) _ _ _ _ (Tab.vK hf) (zx h1 hr) (zx h2 hr);rw[←Array.toList_map,←Array.toList_map]at this;exact this
theorem JD {o:Oper} {q:AOp} {t:_} {x:_} {f:_} (hop:o.op=.fieldAddr t x f) (hq:cOp T o=some q) (hs:St T.L g w H) (hr:dR T.L g n a.tmps e) (h:aF T.L q e H K KP):Good T.L g K KP ((execOp a.eval o).run T.L.P w):=by
 simp only[cOp,hop]at hq;simp only[execOp,hop]
 cases hu:T.L.P.underlying t with
 |none=>simp only[hu]at hq;cases hq
 |some d=>
  cases hx:cX T x with
  |none=>cases d<;>simp only[hu,hx]at hq<;>cases hq
  |some ax=>
   cases d<;>simp only[hu,hx]at hq<;>try(cases hq;done)
   rename_i fs
   cases hfd:fs[f]? with
   |none=>simp only[hfd]at hq;cases hq
   |some fd=>
    simp only[hfd]at hq
    cases hi:T.L.P.info? fd.type with
    |none=>simp only[hi]at hq;cases hq
    |some i=>
     simp only[hi]at hq;split at hq
     ·cases hq
     ·rename_i hsz
      cases hq;have hrx:=bQ hx hr;simp only[aF]at h
      have hrun:∀b o,a.eval x=.pointer (some ⟨b,o,none⟩)→(Instr.fieldAt t (a.eval x) f).run T.L.P w=.ok (.pointer (some ⟨b,o+fd.offset,none⟩)) w:=by
       intro b o hv;rw[hv];unfold Instr.fieldAt;simp[run_underlying hu,hfd,Instr.sureAddr,fieldPlace,sizeOf,typeInfo,hi,hsz,addr_add]
      cases hb:ev e ax<;>simp only[hb]at h
      case jv id ver off=>
       rw[hb]at hrx;generalize hv:a.eval x=v at hrx hrun⊢
       cases hrx with
       |jv _ _ _ s h1=>exact bq (hrun s.b off rfl) (aP hs (.jv _ _ _ s h1) h)
      ·rename_i id off
       rw[hb]at hrx;generalize hv:a.eval x=v at hrx hrun⊢
       cases hrx with
       |ptr _ _ s h1 h2=>exact bq (hrun s.b off rfl) (aP hs (.ptr _ _ s h1 h2) h)
      ·rw[hb]at hrx
       generalize hv:a.eval x=v at hrx hrun⊢
       cases hrx with
       |lZ b o vs cs hf hr'=>
        refine bq (hrun b o rfl) (aP hs (.lZ b (o+fd.offset) (vs.drop fd.offset) _ (fun j u hu=>?_) (hr'.drop fd.offset)) h.2);rw[List.getElem?_drop]at hu;have:=hf _ _ hu;rwa[←Nat.add_assoc]at this
theorem rT {lo:Option Operand} {alo:Option AX} (h:cXo T lo=some alo) (hr:dR T.L g n a.tmps e) {d l:Nat} (hb:fO (alo.map (ev e)) d=some l):
  Ay (lo.map a.eval) d l:=IY hb (Yo h hr)
theorem VY {o:Oper} {q:AOp} {t:_} {x:_} {lo hi mx:_} (hop:o.op=.slice t x lo hi mx) (hq:cOp T o=some q) (hs:St T.L g w H) (hr:dR T.L g n a.tmps e) (h:aF T.L q e H K KP):Good T.L g K KP ((execOp a.eval o).run T.L.P w):=by
 cases mx<;>simp only[cOp,hop]at hq<;>try(cases hq;done)
 simp only[execOp,hop]
 cases hu:T.L.P.underlying t with
 |none=>simp only[hu]at hq;cases hq
 |some d=>
  cases hx:cX T x with
  |none=>cases d<;>simp only[hu,hx]at hq<;>cases hq
  |some ax=>
   cases h1:cXo T lo with
   |none=>cases d<;>simp only[hu,hx,h1]at hq<;>cases hq
   |some alo=>
    cases h2:cXo T hi with
    |none=>cases d<;>simp only[hu,hx,h1,h2]at hq<;>cases hq
    |some ahi=>
     have hrx:=bQ hx hr;cases d<;>simp only[hu,hx,h1,h2]at hq<;>try(cases hq;done)
     ·cases hq
      simp only[aF]at h;cases hb:ev e ax<;>simp only[hb]at h;rename_i s;rw[hb]at hrx;cases hl:fO (alo.map (ev e)) 0<;>simp only[hl]at h;cases hh:fO (ahi.map (ev e)) s.length<;>simp only[hh]at h;obtain⟨k1,k2,k3⟩:=h;have hrun:=EJ (P:=T.L.P) (w:=w) hu (rT h1 hr hl) (rT h2 hr hh) k1 k2;rw[iQ hrx];exact bq hrun (aP hs (.str _) k3)
     ·rename_i el
      obtain⟨i,hi',rfl⟩:=map_some hq;simp only[aF]at h;cases hb:ev e ax<;>simp only[hb]at h
      case vec id ver k' off len=>
       rw[hb]at hrx;cases hl:fO (alo.map (ev e)) 0<;>simp only[hl]at h;cases hh:fO (ahi.map (ev e)) len<;>simp only[hh]at h;rename_i l m;obtain⟨⟨k1,k2,k3,rfl⟩,h⟩:=h;generalize hv:a.eval x=v at hrx
       cases hrx with
       |vec _ _ _ _ _ c s q1 q2 q3 q4=>
        have hrun:=xq (P:=T.L.P) (w:=w) (x:=some ⟨s.b,off*i.size,none⟩) hu hi' (rT h1 hr hl) (rT h2 hr hh) k1 k2 q3;refine bq hrun (aP hs ?_ h)
        have e1:(if c=l then some (⟨s.b,off*i.size,none⟩:Addr)else(some (⟨s.b,off*i.size,none⟩:Addr)).map (·.add (l*i.size)))=some ⟨s.b,(off+l)*i.size,none⟩:=by
         rw[Nat.add_mul];rcases k3 with rfl|k3
         ·split<;>simp[addr_add]
         ·rw[if_neg (by omega)];simp[addr_add]
        rw[e1]
        have hc2:(off+l+(c-l))*i.size≤s.z:=by
         have:off+l+(c-l)=off+c:=by omega
         rw[this];exact q4
        exact .vec id ver i.size (off+l) (m-l) (c-l) s q1 q2 (by omega) hc2
      rename_i xs tk;rw[hb]at hrx;cases hl:fO (alo.map (ev e)) 0<;>simp only[hl]at h;cases hh:fO (ahi.map (ev e)) xs.length<;>simp only[hh]at h;rename_i l m;obtain⟨k1,k2,k3,k4⟩:=h;obtain⟨ad,c,k,b,off,vs,hv,ha,hf,hk,hc,ht,hrep⟩:=lS hrx;have hrun:=xq (P:=T.L.P) (w:=w) (x:=ad) hu hi' (rT h1 hr hl) (rT h2 hr hh) k1 k2 hc;rw[hv];refine bq hrun (aP hs ?_ k4)
      by_cases hfull:l=0∧m=xs.length
      ·obtain⟨rfl,rfl⟩:=hfull
       have e1:(if c=0 then ad else ad.map (·.add (0*i.size)))=ad:=by
        split
        ·rfl
        ·cases ad<;>simp[Addr.add]
       rw[e1,if_pos ⟨rfl,rfl⟩,List.take_length,List.drop_zero];exact .lst ad c k b off xs vs tk ha hf hk hc ht hrep
      ·rw[if_neg hfull]
       have hlen:((xs.take m).drop l).length=m-l:=by simp;omega
       have hsz:∀y∈xs,y.cells.length=i.size:=k3.len
       have hfl:flat ((xs.take m).drop l)=((flat xs).take (m*i.size)).drop (l*i.size):=by
        have g1:∀(ys:List au),(∀y∈ys,y.cells.length=i.size)→∀j,flat (ys.take j)=(flat ys).take (j*i.size):=by
         intro ys
         induction ys with
         |nil=>intro _ j;simp[flat]
         |cons y ys ih=>
          intro hy j
          cases j with
          |zero=>simp[flat]
          |succ j=>
           rw[List.take_succ_cons,gN,gN,ih (fun z hz=>hy z (by simp[hz])) j,Nat.succ_mul,Nat.add_comm];have:=hy y (by simp);rw[List.take_append,List.take_of_length_le (l:=y.cells) (by omega),this,Nat.add_sub_cancel_left]
        have g2:∀(ys:List au),(∀y∈ys,y.cells.length=i.size)→∀j,flat (ys.drop j)=(flat ys).drop (j*i.size):=by
         intro ys
         induction ys with
         |nil=>intro _ j;simp[flat]
         |cons y ys ih=>
          intro hy j
          cases j with
          |zero=>simp[flat]
          |succ j=>
           rw[List.drop_succ_cons,gN,ih (fun z hz=>hy z (by simp[hz])) j,Nat.succ_mul,Nat.add_comm,←List.drop_drop];have:=hy y (by simp);rw[←this,List.drop_left]
        rw[g2 _ (fun y hy=>hsz y (List.mem_of_mem_take hy)),g1 _ hsz]
       have hrep':aX T.L g ((vs.take (m*i.size)).drop (l*i.size)) (flat ((xs.take m).drop l)):=by rw[hfl];exact(hrep.take _).drop _
       have:=Rep.lst (L:=T.L) (g:=g) (if c=l then ad else ad.map (·.add (l*i.size))) (c-l) i.size b (off+l*i.size) ((xs.take m).drop l) _ .none (fun hne=>by
         have hxn:xs≠[]:=fun e0=>by subst e0;simp at hne
         have hlc:c≠l:=fun e0=>by
          apply hne;apply List.eq_nil_of_length_eq_zero;rw[hlen];omega
         rw[ha hxn,if_neg hlc]
         simp[addr_add]) (fun j u hu'=>by
         rw[List.getElem?_drop,List.getElem?_take]at hu';split at hu'
         ·have:=hf _ _ hu'
          rwa[←Nat.add_assoc]at this
         ·cases hu') (fun y hy=>hsz y (List.mem_of_mem_take (List.mem_of_mem_drop hy))) (by rw[hlen];omega) trivial hrep'
       rw[hlen]at this;exact this
theorem V5 {o:Oper} {q:AOp} {t:_} {x:_} {f:_} (hop:o.op=.field t x f) (hq:cOp T o=some q) (hs:St T.L g w H) (hr:dR T.L g n a.tmps e) (h:aF T.L q e H K KP):Good T.L g K KP ((execOp a.eval o).run T.L.P w):=by
 simp only[cOp,hop]at hq;simp only[execOp,hop]
 cases hu:T.L.P.underlying t with
 |none=>simp only[hu]at hq;cases hq
 |some d=>
  cases hx:cX T x with
  |none=>cases d<;>simp only[hu,hx]at hq<;>cases hq
  |some ax=>
   cases d<;>simp only[hu,hx]at hq<;>try(cases hq;done)
   rename_i fs
   cases hfd:fs[f]? with
   |none=>simp only[hfd]at hq;cases hq
   |some fd=>
    simp only[hfd]at hq;obtain⟨k,hk,rfl⟩:=map_some hq;have hrx:=bQ hx hr;simp only[aF]at h;cases hb:ev e ax<;>simp only[hb]at h;rename_i cs;rw[hb]at hrx;generalize hv:a.eval x=v at hrx⊢
    cases hrx with
    |agg vs _ hrep=>
     cases k with
     |none=>
      dsimp only at h;obtain⟨dd,e1,e2,e3⟩:=LD hk
      cases hc:cs[fd.offset]? with
      |none=>simp only[hc]at h
      |some c=>
       simp only[hc]at h;obtain⟨u,hu',hru⟩:=hrep.at _ _ hc;refine bq (w':=w) (v:=u) ?_ (aP hs hru h)
       have hagg:(isAgg fd.type).run T.L.P w=.ok false w:=by
        unfold isAgg;rw[Sem.run_bind,run_underlying e1];cases dd<;>first|rfl|exact absurd rfl (e2 _)|exact absurd rfl (e3 _ _)
       unfold Instr.field;simp[run_underlying hu,hfd,asAgg,part,hagg,hu']
     |some k=>
      obtain⟨dd,i,e1,e2,e3,e4⟩:=LC hk;obtain⟨h1,h2⟩:=h
      have hagg:(isAgg fd.type).run T.L.P w=.ok true w:=by
       unfold isAgg;rw[Sem.run_bind,run_underlying e1];rcases e2 with⟨fs',rfl⟩|⟨m,el,rfl⟩<;>rfl
      refine bq (w':=w) (v:=.agg (vs.toArray.extract fd.offset (fd.offset+k))) ?_ (aP hs ?_ h2)
      ·unfold Instr.field
       simp[run_underlying hu,hfd,asAgg,part,hagg,sizeOf,typeInfo,e3,e4]
      ·have:=Rep.agg _ _ ((hrep.drop fd.offset).take k)
       have e5:vs.toArray.extract fd.offset (fd.offset+k)=((vs.drop fd.offset).take k).toArray:=by
        apply Array.ext';simp
       rw[e5];exact this
theorem Gg {k:Nat}:∀(xs:List au) (i:Nat) (y:au),(∀x∈xs,x.cells.length=k)→xs[i]?=some y→((flat xs).drop (i*k)).take k=y.cells
 |[],i,y,_,h=>by simp at h
 |x::xs,0,y,hk,h=>by
  simp at h;subst h;rw[gN];have:=hk x (by simp);simp[←this]
 |x::xs,i+1,y,hk,h=>by
  have hx:=hk x (by simp);rw[gN,Nat.succ_mul,Nat.add_comm,←List.drop_drop,←hx,List.drop_left,hx];exact Gg xs i y (fun z hz=>hk z (by simp[hz])) (by simpa using h)
theorem JC {o:Oper} {q:AOp} {t:_} {x i:_} (hop:o.op=.indexAddr t x i) (hq:cOp T o=some q) (hs:St T.L g w H) (hr:dR T.L g n a.tmps e) (h:aF T.L q e H K KP):Good T.L g K KP ((execOp a.eval o).run T.L.P w):=by
 simp only[cOp,hop]at hq;simp only[execOp,hop]
 cases hu:T.L.P.underlying t with
 |none=>simp only[hu]at hq;cases hq
 |some d=>
  cases hx:cX T x with
  |none=>cases d<;>simp only[hu,hx]at hq<;>cases hq
  |some ax=>
   cases hi:cX T i with
   |none=>cases d<;>simp only[hu,hx,hi]at hq<;>cases hq
   |some ai=>
    cases d<;>simp only[hu,hx,hi]at hq<;>try(cases hq;done)
    rename_i el;obtain⟨inf,Nc,rfl⟩:=map_some hq;have hrx:=bQ hx hr;have hri:=bQ hi hr;simp only[aF]at h;cases hb:ev e ax<;>cases hb2:ev e ai<;>simp only[hb,hb2]at h
    case vec.int id ver k' off len kk m=>
     obtain⟨⟨h0,hlt,rfl⟩,h⟩:=h;rw[hb]at hrx;rw[hb2]at hri;generalize hvx:a.eval x=vx at hrx
     cases hrx with
     |vec _ _ _ _ _ c sp q1 q2 q3 q4=>
      rw[gG hri];refine bq (w':=w) (v:=.pointer (some ⟨sp.b,(off+m.toNat)*inf.size,none⟩)) ?_ (aP hs (.jv id ver _ sp q1) h);unfold Instr.indexAt;simp[asIntOf,run_underlying hu,h0,hlt,sizeOf,typeInfo,Nc,addr_add,Nat.add_mul]
    case arr.int id k' off len kk m=>
     obtain⟨⟨h0,hlt,_,hk1⟩,h⟩:=h;rw[hb]at hrx;rw[hb2]at hri;generalize hvx:a.eval x=vx at hrx
     cases hrx with
     |arr _ _ _ _ c sp q1 q2 q3=>
      rw[gG hri];refine bq (w':=w) (v:=.pointer (some ⟨sp.b,off+m.toNat,none⟩)) ?_ (aP hs (.ptr id (off+m.toNat) sp q1 q2) h);unfold Instr.indexAt;simp[asIntOf,run_underlying hu,h0,hlt,sizeOf,typeInfo,Nc,addr_add,hk1]
    rename_i xs tk kk m;obtain⟨h0,h⟩:=h
    cases hy:xs[m.toNat]? with
    |none=>simp only[hy]at h
    |some y=>
     simp only[hy]at h;obtain⟨hk1,h⟩:=h;rw[hb]at hrx;rw[hb2]at hri;obtain⟨ad,c,k,b,off,vs,hv,ha,hf,hk,hc,ht,hrep⟩:=lS hrx
     have hm:m.toNat<xs.length:=by
      rcases Nat.lt_or_ge m.toNat xs.length with h'|h'
      ·exact h'
      ·rw[List.getElem?_eq_none h']at hy;cases hy
     have hkk:k=inf.size:=(hk y (List.mem_of_getElem? hy)).symm.trans hk1;have had:=ha (fun e0=>by subst e0;simp at hm);rw[hv,gG hri,had];refine bq (w':=w) (v:=.pointer (some ⟨b,off+m.toNat*inf.size,none⟩)) ?_ (aP hs ?_ h)
     ·have hlt:m<(xs.length:Int):=by omega
      unfold Instr.indexAt;simp[asIntOf,run_underlying hu,h0,hlt,sizeOf,typeInfo,Nc,addr_add]
     ·have hfe:=Gg xs m.toNat y hk hy
      refine .lZ b (off+m.toNat*inf.size) ((vs.drop (m.toNat*inf.size)).take inf.size) _ (fun j u hu'=>?_) ?_
      ·rw[List.getElem?_take]at hu'
       split at hu'
       ·rw[List.getElem?_drop]at hu'
        have:=hf _ _ hu';rwa[←Nat.add_assoc]at this
       ·cases hu'
      ·rw[←hfe,hkk]
       exact(hrep.drop _).take _
theorem V4 {o:Oper} {q:AOp} {t:_} {x i:_} (hop:o.op=.index t x i) (hq:cOp T o=some q) (hs:St T.L g w H) (hr:dR T.L g n a.tmps e) (h:aF T.L q e H K KP):Good T.L g K KP ((execOp a.eval o).run T.L.P w):=by
 simp only[cOp,hop]at hq;simp only[execOp,hop]
 cases hu:T.L.P.underlying t with
 |none=>simp only[hu]at hq;cases hq
 |some d=>
  cases hx:cX T x with
  |none=>cases d<;>simp only[hu,hx]at hq<;>cases hq
  |some ax=>
   cases hi:cX T i with
   |none=>cases d<;>simp only[hu,hx,hi]at hq<;>cases hq
   |some ai=>
    cases d<;>simp only[hu,hx,hi]at hq<;>try(cases hq;done)
    cases hq;have hrx:=bQ hx hr;have hri:=bQ hi hr;simp only[aF]at h;cases hb:ev e ax<;>cases hb2:ev e ai<;>simp only[hb,hb2]at h;rename_i s kk m;obtain⟨h0,h⟩:=h
    cases hy:s[m.toNat]? with
    |none=>simp only[hy]at h
    |some y=>
     simp only[hy]at h;rw[hb]at hrx;rw[hb2]at hri;rw[iQ hrx,gG hri];refine bq (w':=w) (v:=.int .u8 y.toNat) ?_ (aP hs (.int _ _) h)
     have hget:(⟨s.toArray⟩:ByteArray)[m.toNat]?=some y:=by
      have hm:m.toNat<s.length:=by
       rcases Nat.lt_or_ge m.toNat s.length with h'|h'
       ·exact h'
       ·rw[List.getElem?_eq_none h']at hy;cases hy
      rw[Go.ByteArray.getElem?_lt' _ _ (by simpa[ByteArray.size]using hm)];rw[List.getElem?_eq_getElem hm]at hy;rw[←hy]
      congr 1
     unfold Instr.index;simp[asIntOf,run_underlying hu,h0,hget]
theorem Qf {o:Oper} {q:AOp} {x:_} {i:_} (hop:o.op=.extract x i) (hq:cOp T o=some q) (hs:St T.L g w H) (hr:dR T.L g n a.tmps e) (h:aF T.L q e H K KP):Good T.L g K KP ((execOp a.eval o).run T.L.P w):=by
 simp only[cOp,hop]at hq;obtain⟨ax,h1,rfl⟩:=map_some hq;simp only[execOp,hop];have hrx:=bQ h1 hr;simp only[aF]at h;cases hb:ev e ax<;>simp only[hb]at h;rename_i vs;rw[hb]at hrx
 cases hv:vs[i]? with
 |none=>simp only[hv]at h
 |some y=>
  simp only[hv]at h;generalize a.eval x=v at hrx⊢
  cases hrx with
  |tup us _ hrep=>
   obtain⟨u,hu,hru⟩:=hrep.at _ _ hv;refine bq (w':=w) (v:=u) ?_ (aP hs hru h);unfold Instr.extract;simp[hu]
end Go.Ag
/- Maps: each operation of the machine does what its abstract operation says. -/
namespace Go.Ag
open Go
open Go.RowKit (Below)
variable {T : Tab} {g : aA} {w : World} {H : Heap} {K KP : au → Heap → Prop} {e : Env} {a : Act} {n : Nat}
def Io :Nat→TypeDesc→Prop
 |0,.int _=>True
 |1,.string=>True
 |2,.bool=>True
 |_,_=>False
def SX :Nat→Value→Prop
 |0,.int _ _=>True
 |1,.string _=>True
 |2,.bool _=>True
 |_,_=>False
theorem DI {t kk:Nat} (h:y8 T t=some kk):∃d,T.L.P.underlying t=some d∧Io kk d:=by
 unfold y8 at h
 cases hd:T.L.P.underlying t with
 |none=>rw[hd]at h;cases h
 |some d=>
  rw[hd]at h;refine⟨d,rfl,?_⟩;cases d<;>cases h<;>trivial
theorem ND (a b:List UInt8):((⟨a.toArray⟩:ByteArray)==(⟨b.toArray⟩:ByteArray))=(a==b):=by
 rw[Bool.eq_iff_iff,MapKept.bytes_beq];simp
theorem Km {kk:Nat} {x y:au} {r:Bool} (h:DJ kk x y=some r) {d:TypeDesc} (hd:Io kk d) {u v:Value} (hu:Rep T.L g u x) (hv:Rep T.L g v y):
  SX kk u∧Instr.sameNow d u v=some r∧(r=true→u=v):=by
 unfold DJ at h;split at h
 ·cases gG hu;cases gG hv
  split at h
  ·rename_i hk
   subst hk;cases h;cases d<;>try exact hd.elim
   refine⟨trivial,by simp[Instr.sameNow],fun hb=>?_⟩;have:=beq_iff_eq.1 hb;rw[this]
  ·cases h
 ·cases iQ hu;cases iQ hv
  cases h;cases d<;>try exact hd.elim
  refine⟨trivial,by simp[Instr.sameNow,ND],fun hb=>?_⟩;have:=beq_iff_eq.1 hb;rw[this]
 ·cases kE hu;cases kE hv
  cases h;cases d<;>try exact hd.elim
  refine⟨trivial,by simp[Instr.sameNow],fun hb=>?_⟩;have:=beq_iff_eq.1 hb;rw[this]
 ·cases h
theorem xu {P:Program} {w:World} {kt kk:Nat} {d:TypeDesc} {k:Value} (hd:P.underlying kt=some d) (h1:Io kk d) (em:Bool) (m:Nat):(Instr.checkKey em (m+1) kt k).run P w=.ok () w:=by
 unfold Instr.checkKey;simp only[Sem.run_bind,run_underlying hd,Result.andThen];cases d<;>first|rfl|(cases kk<;>first|exact h1.elim|(rename_i kk;cases kk<;>first|exact h1.elim|(rename_i kk;cases kk<;>exact h1.elim)))
theorem vM {kk:Nat} {k:au} {d:TypeDesc} (hd:Io kk d) {kv:Value} (hk:Rep T.L g kv k):∀(ents:List MapEntry) (es:List (au×au×Nat)) (i:Nat) (r:Option (Nat×au)),
  aX T.L g (ents.map (·.key)) (es.map (·.1))→aX T.L g (ents.map (·.val)) (es.map (·.2.1))→qy kk k es i=some r→
  match r with
  |none=>Instr.findNow d kv ents i=some none
  |some (j,x)=>∃v,Instr.findNow d kv ents i=some (some (j,v))∧Rep T.L g v x∧i≤j∧SX kk kv∧∃en,ents[j-i]?=some en∧en.key=kv
 |[],[],i,r,_,_,h=>by cases h;rfl
 |[],_::_,_,_,h,_,_=>by cases h
 |_::_,[],_,_,h,_,_=>by cases h
 |en::ents,p::es,i,r,h1,h2,h=>by
  cases h1 with|cons _ _ _ _ a1 a2=>
  cases h2 with|cons _ _ _ _ b1 b2=>
  simp only[qy]at h
  cases hq:DJ kk k p.1 with
  |none=>rw[hq]at h;cases h
  |some b=>
   rw[hq]at h;obtain⟨q0,q1,q2⟩:=Km hq hd hk a1
   cases b with
   |true=>
    cases h;exact⟨en.val,by simp[Instr.findNow,q1],b1,Nat.le_refl _,q0,en,by simp,(q2 rfl).symm⟩
   |false=>
    have:=vM hd hk ents es (i+1) r a2 b2 h
    cases r with
    |none=>simpa[Instr.findNow,q1]using this
    |some p=>
     obtain⟨v,c1,c2,c3,c0,en',c4,c5⟩:=this;refine⟨v,by simpa[Instr.findNow,q1]using c1,c2,by omega,c0,en',?_,c5⟩;have e1:p.1-i=(p.1-(i+1))+1:=by omega
     rw[e1];simpa using c4
theorem Ed (hs:St T.L g w H) {m:au} {es:List (au×au×Nat)} (h:lG H m=some es) {v:Value} (hv:Rep T.L g v m):
  (v=.map none∧es=[])∨∃b ents clock,v=.map (some b)∧w.heap[b]?=some (.map ents clock)∧aX T.L g (ents.toList.map (·.key)) (es.map (·.1))∧aX T.L g (ents.toList.map (·.val)) (es.map (·.2.1)):=by
 unfold lG at h;cases m<;>try(cases h;done)
 ·rename_i id
  cases hv with
  |map _ s hb=>
   dsimp only at h
   cases ho:H[id]? with
   |none=>rw[ho]at h;cases h
   |some o=>
    cases o<;>rw[ho]at h<;>cases h;obtain⟨s',ents,k1,k2,k3,k4,_⟩:=hs.obj id _ ho;rw[hb]at k1;cases k1;exact .inr ⟨_,ents,_,rfl,k2,k3,k4⟩
 ·cases hv;cases h;exact .inl ⟨rfl,rfl⟩
theorem Qe {o:Oper} {q:AOp} {t:_} {x:_} (hop:o.op=.makeMap t x) (hq:cOp T o=some q) (hs:St T.L g w H) (hr:dR T.L g n a.tmps e) (h:aF T.L q e H K KP):Good T.L g K KP ((execOp a.eval o).run T.L.P w):=by
 cases x with
 |some x=>simp only[cOp,hop]at hq;cases hq
 |none=>
 simp only[cOp,hop]at hq;simp only[execOp,hop];split at hq<;>cases hq;simp only[aF]at h;have h1:=hs.alloc (.map #[] 0)
 let s:ko:=⟨w.heap.size,0,0,0⟩
 obtain⟨k1,k2⟩:=h1.push (b:=w.heap.size) (ob:=.map [] 0) (s:=s) rfl (by rw[cO];omega) hs.new_ne
  ⟨s, #[],aA.bF ..,dG ..,.nil,.nil,rfl,hs.jG,fun e he=>(by cases he),List.nodup_nil⟩
 have hrun:(Instr.makeMap t none).run T.L.P w=.ok (.map (some w.heap.size)) (w.alloc (.map #[] 0)):=by simp[Instr.makeMap]
 exact bq hrun ⟨_,_,_,h,k1,k2,.map _ s (aA.bF ..)⟩
theorem Sc {o:Oper} {q:AOp} {t:_} {x i:_} {ok:_} (hop:o.op=.lookup t x i ok) (hq:cOp T o=some q) (hs:St T.L g w H) (hr:dR T.L g n a.tmps e) (h:aF T.L q e H K KP):Good T.L g K KP ((execOp a.eval o).run T.L.P w):=by
 simp only[cOp,hop]at hq;simp only[execOp,hop]
 cases hu:T.L.P.underlying t with
 |none=>simp only[hu]at hq;cases hq
 |some dt=>
 cases hx:cX T x with
 |none=>cases dt<;>simp only[hu,hx]at hq<;>cases hq
 |some ax=>
 cases hi:cX T i with
 |none=>cases dt<;>simp only[hu,hx,hi]at hq<;>cases hq
 |some ai=>
 cases dt<;>simp only[hu,hx,hi]at hq<;>try(cases hq;done)
 rename_i kt et
 cases hk:y8 T kt with
 |none=>simp only[hk]at hq;cases hq
 |some kk=>
 cases Nc:T.L.P.info? et with
 |none=>simp only[hk,Nc]at hq;cases hq
 |some inf=>
 simp only[hk,Nc]at hq
 cases hz:inf.zero with
 |none=>simp only[hz]at hq;cases hq
 |some z=>
 simp only[hz]at hq;obtain⟨zv,hzv,rfl⟩:=map_some hq;obtain⟨d,hd,hkd⟩:=DI hk;have hrm:=bQ hx hr;have hrk:=bQ hi hr;simp only[aF]at h
 cases hl:mq kk zv ok H (ev e ax) (ev e ai)with
 |none=>simp only[hl]at h
 |some rv=>
 simp only[hl]at h;unfold mq at hl
 cases he:lG H (ev e ax)with
 |none=>simp only[he]at hl;cases hl
 |some es=>
 simp only[he]at hl;obtain⟨r,hf,rfl⟩:=map_some hl;have hzr:(zeroValue et).run T.L.P w=.ok z w:=by simp[zeroValue,typeInfo,Nc,hz]
 have hck:∀em,(Instr.checkKey em 10000 kt (a.eval i)).run T.L.P w=.ok () w:=fun em=>xu hd hkd em 9999
 have Yv:Rep T.L g (if ok then .tuple #[z,.bool false]else z) (yZ zv ok none):=by
  unfold yZ
  cases ok with
  |true=>exact .tup [_,_] _ (.cons _ _ _ _ (zy hzv) (.cons _ _ _ _ (.bool _) .nil))
  |false=>exact zy hzv
 rcases Ed hs he hrm with⟨hv,rfl⟩|⟨b,ents,clock,hv,hb,k1,k2⟩
 ·cases hf
  have hfk:=MapKept.run_findKey (w:=w) (k:=a.eval i) (l:=[]) (a:=none) hd rfl;refine bq (v:=if ok then .tuple #[z,.bool false]else z) ?_ (aP hs Yv h);rw[hv];simp[Instr.lookup,run_underlying hu,hck,hfk,hzr,Result.andThen]
 ·have hfm:=vM hkd hrk ents.toList es 0 r k1 k2 hf
  rw[hv]
  cases r with
  |none=>
   have hfk:=MapKept.run_findKey (w:=w) hd hfm;refine bq (v:=if ok then .tuple #[z,.bool false]else z) ?_ (aP hs Yv h);simp[Instr.lookup,run_underlying hu,MapKept.run_getObj_map hb,hck,hfk,hzr,Result.andThen]
  |some q=>
   obtain⟨v,c1,c2,_⟩:=hfm;have hfk:=MapKept.run_findKey (w:=w) hd c1;refine bq (v:=if ok then .tuple #[v,.bool true]else v) ?_ (aP hs ?_ h)
   ·simp[Instr.lookup,run_underlying hu,MapKept.run_getObj_map hb,hck,hfk,Result.andThen]
   ·unfold yZ
    cases ok with
    |true=>exact .tup [_,_] _ (.cons _ _ _ _ c2 (.cons _ _ _ _ (.bool _) .nil))
    |false=>exact c2
theorem Bd {us:List Value} {xs:List au} (h:aX T.L g us xs) {v:Value} {x:au} (hv:Rep T.L g v x) (j:Nat):aX T.L g (us.modify j fun _=>v) (xs.modify j fun _=>x):=by
 induction us generalizing xs j with
 |nil=>cases h;cases j<;>exact .nil
 |cons u us ih=>
  cases h with|cons _ y _ ys h hs=>
  cases j with
  |zero=>exact .cons _ _ _ _ hv hs
  |succ j=>simpa using aX.cons _ _ _ _ h (ih hs j)
theorem oh {α β:Type} (f:α→β) (m:α→α) (k:β→β) (hm:∀x,f (m x)=k (f x)):∀(l:List α) (j:Nat),(l.modify j m).map f=(l.map f).modify j k
 |[],j=>by cases j<;>rfl
 |x::l,0=>by simp[hm]
 |x::l,j+1=>by simp[oh f m k hm l j]
theorem nP {α β:Type} (f:α→β) (m:α→α) (hm:∀x,f (m x)=f x):∀(l:List α) (j:Nat),(l.modify j m).map f=l.map f
 |[],j=>by cases j<;>rfl
 |x::l,0=>by simp[hm]
 |x::l,j+1=>by simp[nP f m hm l j]
theorem mem_modify {α:Type} {m:α→α}:∀{l:List α} {j:Nat} {y:α},y∈l.modify j m→y∈l∨∃x∈l,y=m x
 |[],j,y,h=>by cases j<;>simp at h
 |x::l,0,y,h=>by
  simp only[List.modify_zero_cons,List.mem_cons]at h;rcases h with rfl|h
  ·exact .inr ⟨x,by simp,rfl⟩
  ·exact .inl (by simp[h])
 |x::l,j+1,y,h=>by
  simp only[List.modify_succ_cons,List.mem_cons]at h;rcases h with rfl|h
  ·exact .inl (by simp)
  ·rcases mem_modify h with h|⟨z,h1,h2⟩
   ·exact .inl (by simp[h])
   ·exact .inr ⟨z,by simp[h1],h2⟩
theorem Qd {kk:Nat} {v:Value} (h:SX kk v) (n:Nat):Instr.sameBits n v v=true:=by
 cases v<;>first
  |(cases n<;>simp[Instr.sameBits,MapKept.bytes_beq];done)
  |(cases kk<;>first|exact h.elim|(rename_i kk;cases kk<;>first|exact h.elim|(rename_i kk;cases kk<;>exact h.elim)))
theorem SF {α β γ:Type} {f:α→γ} {h:β→γ} {l:List α} {l':List β} (he:l.map f=l'.map h) {i:Nat} {x:α} (hx:l[i]?=some x):∃y,l'[i]?=some y∧h y=f x:=by
 have h1:(l.map f)[i]?=some (f x):=by simp[hx]
 rw[he,List.getElem?_map]at h1
 cases hy:l'[i]? with
 |none=>rw[hy]at h1;cases h1
 |some y=>rw[hy]at h1;exact⟨y,rfl,Option.some.inj h1⟩
theorem map_cell {w:World} {b:Nat} {es:Array MapEntry} {c:Nat} (h:w.heap[b]?=some (.map es c)):∀x,w.cell? ⟨b,x,none⟩=none:=fun x=>by simp[World.cell?,h]
theorem JA {o:Oper} {q:AOp} {t:_} {x i y:_} (hop:o.op=.mapUpdate t x i y) (hq:cOp T o=some q) (hs:St T.L g w H) (hr:dR T.L g n a.tmps e) (h:aF T.L q e H K KP):Good T.L g K KP ((execOp a.eval o).run T.L.P w):=by
 simp only[cOp,hop]at hq;simp only[execOp,hop]
 cases hu:T.L.P.underlying t with
 |none=>simp only[hu]at hq;cases hq
 |some dt=>
 cases hx:cX T x with
 |none=>cases dt<;>simp only[hu,hx]at hq<;>cases hq
 |some ax=>
 cases hi:cX T i with
 |none=>cases dt<;>simp only[hu,hx,hi]at hq<;>cases hq
 |some ai=>
 cases hy:cX T y with
 |none=>cases dt<;>simp only[hu,hx,hi,hy]at hq<;>cases hq
 |some ay=>
 cases dt<;>simp only[hu,hx,hi,hy]at hq<;>try(cases hq;done)
 rename_i kt et;obtain⟨kk,hk,rfl⟩:=map_some hq;obtain⟨d,hd,hkd⟩:=DI hk;have hrm:=bQ hx hr;have hrk:=bQ hi hr;have hrv:=bQ hy hr;simp only[aF]at h
 cases hp:yO kk H (ev e ax) (ev e ai) (ev e ay)with
 |none=>simp only[hp]at h
 |some H'=>
 simp only[hp]at h;unfold yO at hp;cases hm:ev e ax<;>simp only[hm]at hp<;>try(cases hp;done)
 rename_i id
 cases ho:H[id]? with
 |none=>rw[ho]at hp;cases hp
 |some ob=>
 cases ob<;>rw[ho]at hp<;>try(cases hp;done)
 rename_i es c;dsimp only at hp;rw[hm]at hrm;generalize hvm:a.eval x=vm at hrm
 cases hrm with|map _ s hb=>
 obtain⟨s',ents,k1,k2,k3,k4,k5,k6,k7,k8⟩:=hs.obj id _ ho;rw[hb]at k1;cases k1;have hck:∀em,(Instr.checkKey em 10000 kt (a.eval i)).run T.L.P w=.ok () w:=fun em=>xu hd hkd em 9999
 have go:∀(Ee:Array MapEntry) (es':List (au×au×Nat)) (c':Nat),aX T.L g (Ee.toList.map (·.key)) (es'.map (·.1))→aX T.L g (Ee.toList.map (·.val)) (es'.map (·.2.1))→
   Ee.toList.map (·.born)=es'.map (·.2.2)→(∀e∈es',e.2.2<c')→(es'.map (·.2.2)).Nodup→St T.L g (w.putObj s.b (.map Ee c')) (H.set id (.map es' c')):=by
  intro Ee es' c' q1 q2 q3 q4 q5;obtain⟨p1,p2,p3⟩:=o7 w (o':=.map Ee c') k2
  refine hs.L8 ho rfl hb (aA.le.refl g) rfl rfl rfl (fun _ _ _=>rfl) (fun v s h=>.inl h) (fun _=>hb) (.inl rfl) (by rw[p3];exact hs.bnd _ _ _ hb) (hs.IE (map_cell k2)) (by rw[k2];simp)
   (fun b hb _=>p2 b hb) (by rw[p3];omega) rfl rfl rfl ⟨s,Ee,hb,p1,q1,q2,q3,k6,q4,q5⟩
 cases hf:qy kk (ev e ai) es 0 with
 |none=>rw[hf]at hp;cases hp
 |some r=>
 rw[hf]at hp;have hfm:=vM hkd hrk ents.toList es 0 r k3 k4 hf
 cases r with
 |none=>
  dsimp only at hp;cases hp;have hfk:=MapKept.run_findKey (w:=w) hd hfm
  have hrun:(Instr.mapUpdate t (.map (some s.b)) (a.eval i) (a.eval y)).run T.L.P w=.ok () (w.putObj s.b (.map (ents.push {key:=a.eval i,val:=a.eval y,born:=c}) (c+1))):=by
   simp[Instr.mapUpdate,run_underlying hu,MapKept.run_getObj_map k2,hck,hfk,MapKept.run_setObj_map _ k2,Result.andThen,World.putObj]
  refine Am hrun ⟨_,g,h,aA.le.refl g,go _ _ _ ?_ ?_ ?_ ?_ ?_⟩
  ·simp only[Array.toList_push,List.map_append];exact k3.append (.cons _ _ _ _ hrk .nil)
  ·simp only[Array.toList_push,List.map_append];exact k4.append (.cons _ _ _ _ hrv .nil)
  ·simp only[Array.toList_push,List.map_append,k5];rfl
  ·intro p hp
   rcases List.mem_append.1 hp with hp|hp
   ·exact Nat.lt_succ_of_lt (k7 p hp)
   ·simp only[List.mem_singleton]at hp;subst hp;exact Nat.lt_succ_self _
  ·rw[List.map_append,List.nodup_append]
   refine⟨k8,by simp,fun x hx y hy=>?_⟩;obtain⟨p,hp,rfl⟩:=List.mem_map.1 hx;simp only[List.map_cons,List.map_nil,List.mem_singleton]at hy;subst hy;have:=k7 p hp;omega
 |some p=>
  obtain⟨j,x0⟩:=p;dsimp only at hp;cases hp;obtain⟨v,c1,c2,c3,c0,en,c4,c5⟩:=hfm;have hfk:=MapKept.run_findKey (w:=w) hd c1;have hen:ents[j]?=some en:=by simpa using c4
  have hkeep:(Instr.keyThatStays (((ents[j]?).map (·.key)).getD (a.eval i)) (a.eval i)).run T.L.P w=.ok (a.eval i) w:=by
   rw[hen];simp[Instr.keyThatStays,c5,Qd c0]
  have hrun:(Instr.mapUpdate t (.map (some s.b)) (a.eval i) (a.eval y)).run T.L.P w=.ok () (w.putObj s.b (.map (ents.modify j fun en=>{en with key:=a.eval i,val:=a.eval y}) c)):=by
   simp[Instr.mapUpdate,run_underlying hu,MapKept.run_getObj_map k2,hck,hfk,hkeep,MapKept.run_setObj_map _ k2,Result.andThen,World.putObj]
  have e0:(ents.modify j fun en=>{en with key:=a.eval i,val:=a.eval y}).toList=ents.toList.modify j fun en=>{en with key:=a.eval i,val:=a.eval y}:=by simp
  refine Am hrun ⟨_,g,h,aA.le.refl g,go _ _ _ ?_ ?_ ?_ ?_ ?_⟩
  ·rw[e0,oh (fun x:MapEntry=>x.key) (fun en=>{en with key:=a.eval i,val:=a.eval y}) (fun _=>a.eval i) (fun _=>rfl),
    oh (fun x:au×au×Nat=>x.1) (fun q=>(ev e ai,ev e ay,q.2.2)) (fun _=>ev e ai) (fun _=>rfl)]
   exact Bd k3 hrk j
  ·rw[e0,oh (fun x:MapEntry=>x.val) (fun en=>{en with key:=a.eval i,val:=a.eval y}) (fun _=>a.eval y) (fun _=>rfl),
    oh (fun x:au×au×Nat=>x.2.1) (fun q=>(ev e ai,ev e ay,q.2.2)) (fun _=>ev e ay) (fun _=>rfl)]
   exact Bd k4 hrv j
  ·rw[e0,nP (fun x:MapEntry=>x.born) (fun en=>{en with key:=a.eval i,val:=a.eval y}) (fun _=>rfl),
    nP (fun x:au×au×Nat=>x.2.2) (fun q=>(ev e ai,ev e ay,q.2.2)) (fun _=>rfl),k5]
  ·intro p hp
   rcases mem_modify hp with hp|⟨z,hz,rfl⟩
   ·exact k7 p hp
   ·exact k7 z hz
  ·rw[nP (fun x:au×au×Nat=>x.2.2) (fun q=>(ev e ai,ev e ay,q.2.2)) (fun _=>rfl)];exact k8
theorem VZ {o:Oper} {q:AOp} {t:_} {x:_} (hop:o.op=.range t x) (hq:cOp T o=some q) (hs:St T.L g w H) (hr:dR T.L g n a.tmps e) (h:aF T.L q e H K KP):Good T.L g K KP ((execOp a.eval o).run T.L.P w):=by
 simp only[cOp,hop]at hq;simp only[execOp,hop]
 cases hu:T.L.P.underlying t with
 |none=>simp only[hu]at hq;cases hq
 |some dt=>
 cases hx:cX T x with
 |none=>cases dt<;>simp only[hu,hx]at hq<;>cases hq
 |some ax=>
 cases dt<;>simp only[hu,hx]at hq<;>cases hq;rename_i kt et;have hrm:=bQ hx hr;simp only[aF]at h
 have go:∀(it:Obj) (ob:aU),ob.ver=0→(∀s:ko,s.b=w.heap.size→s.s=0→kN T.L (g.dW H.length 0 s) (w.alloc it) H.length ob)→K (.ptr H.length 0) (H ++[ob])→(Instr.range t (a.eval x)).run T.L.P w=.ok (.pointer (some ⟨w.heap.size,0,none⟩)) (w.alloc it)→
   Good T.L g K KP ((do pure (Next.value (←Instr.range t (a.eval x))):Sem Next).run T.L.P w):=by
  intro it ob hv hok hk hrun;have h1:=hs.alloc it
  let s:ko:=⟨w.heap.size,0,0,0⟩
  obtain⟨k1,k2⟩:=h1.push (b:=w.heap.size) (ob:=ob) (s:=s) rfl (by rw[cO];omega) hs.new_ne (by rw[hv];exact hok s rfl rfl);rw[hv]at k1 k2;exact bq hrun ⟨_,_,_,hk,k1,k2,.ptr _ _ s (aA.bF ..) rfl⟩
 cases hm:ev e ax<;>simp only[hm]at h<;>rw[hm]at hrm
 ·rename_i id
  cases ho:H[id]? with
  |none=>rw[ho]at h;exact h.elim
  |some ob=>
  cases ob<;>simp only[ho]at h;rename_i es c;generalize hvm:a.eval x=vm at hrm
  cases hrm with|map _ s hb=>
  obtain⟨s',ents,k1,k2,_⟩:=hs.obj id _ ho;rw[hb]at k1;cases k1;have hne:id≠H.length:=by have:=hs.dom _ _ _ hb;omega
  rw[←hvm];refine go (.mapIter (some s.b) c #[] c) (.iJ (some id) c [] c) rfl (fun s1 e1 e2=>⟨s1,aA.bF ..,?_,s,?_,?_⟩) h ?_
  ·exact⟨by rw[e1];exact hs.jG.1,by rw[e1];exact hs.jG.2⟩
  ·rw[aA.dN _ _ _ _ hne];exact hb
  ·rw[e1];exact dG ..
  ·rw[hvm];exact run_range_map w t kt et s.b ents c hu k2
 ·have hvm:=hrm
  generalize hv0:a.eval x=vm at hrm;cases hrm;rw[←hv0];refine go (.mapIter none 0 #[] 0) (.iJ none 0 [] 0) rfl (fun s1 e1 e2=>⟨s1,aA.bF ..,?_,?_⟩) h ?_
  ·exact⟨by rw[e1];exact hs.jG.1,by rw[e1];exact hs.jG.2⟩
  ·rw[e1];exact dG ..
  ·rw[hv0];exact run_range_nilMap w t kt et hu
theorem kD {P:Program} {w:World} {r:Nat} {o:Obj} (hb:w.heap[r]?=some o) (hc:∀c t f,o≠.cells c t f):(getObj r).run P w=.ok o w:=by
 cases o<;>first|exact absurd rfl (hc _ _ _)|simp[getObj,Sem.run,hb]
theorem CY {P:Program} {w:World} {r:Nat} {o o':Obj} (hb:w.heap[r]?=some o) (hc:∀c t f,o≠.cells c t f):(setObj r o').run P w=.ok () (w.putObj r o'):=by
 cases o<;>first|exact absurd rfl (hc _ _ _)|simp[setObj,Sem.run,hb,World.putObj]
theorem Qh {P:Program} (w:World) (ty:TypeId) (bi bm since c0:Nat) (seen:Array Nat) (es:Array MapEntry) (clock:Nat) (hbi:w.heap[bi]?=some (.mapIter (some bm) since seen c0)) (hb:w.heap[bm]?=some (.map es clock)) (hold:∀x∈es.toList,x.born<since) (hsc:since≤c0):
  ((∀x∈es.toList,x.born∈seen.toList)∧(Instr.next (.pointer (some ⟨bi,0,none⟩)) false ty).run P w=.ok (.tuple #[.bool false]) w)∨
  ∃e∈es.toList,e.born∉seen.toList∧∃w1:World,(w1=w∨w1=w.drew)∧(Instr.next (.pointer (some ⟨bi,0,none⟩)) false ty).run P w=.ok (.tuple #[.bool true,e.key,e.val]) (w1.putObj bi (.mapIter (some bm) since (seen.push e.born) clock)):=by
 have hg1:=kD (P:=P) hbi (fun _ _ _ h=>by cases h);have hg2:=kD (P:=P) hb (fun _ _ _ h=>by cases h);simp only[Instr.next,Sem.run_bind,hg1,hg2,Result.andThen,next_test_false seen es since c0 hold hsc,Bool.false_eq_true,if_false];have hmem:∀x∈(Array.filter (fun e=> !seen.contains e.born) es).toList,x.born<since:=fun x hx=>hold x (by simp at hx⊢;exact hx.1)
 have hL:∀x,x∈(Array.filter (fun e=> !seen.contains e.born) es).toList↔x∈es.toList∧x.born∉seen.toList:=fun x=>by simp
 generalize Array.filter (fun e=> !seen.contains e.born) es=L at hmem hL⊢;have e1:L.filter (fun x=>decide (x.born<since))=L:=Array.filter_eq_self.2 (fun x hx=>by simpa using hmem x (by simpa using hx))
 have e2:L.filter (fun x=>decide (x.born≥since))= #[]:=by
  rw[Array.filter_eq_empty_iff];intro x hx;have:=hmem x (by simpa using hx);simp;omega
 simp only[e1,e2,Array.append_empty]
 by_cases h0:L.size=0
 ·left
  have:L= #[]:=Array.eq_empty_of_size_eq_zero h0;subst this;refine⟨fun x hx=>?_,?_⟩
  ·by_cases hb:x.born∈seen.toList
   ·exact hb
   ·have:=(hL x).2 ⟨hx,hb⟩;simp at this
  ·simp[choose,Sem.run,Question.forced]
 ·right
  have hne:L.isEmpty=false:=by simp[Array.isEmpty,h0]
  simp only[hne,Bool.false_eq_true,if_false,Array.empty_append,Array.size_map]
  have hch:∃(j:Nat) (w1:World),j<L.size∧(w1=w∨w1=w.drew)∧(choose (Question.mapNext L.size)).run P w=.ok j w1:=by
   by_cases hf:L.size≤1
   ·exact⟨0,w,by omega,.inl rfl,by simp[choose,Sem.run,Question.forced,hf]⟩
   ·exact⟨_,w.drew,Nat.mod_lt _ (by omega),.inr rfl,by
     simp only[choose,Sem.run,Question.forced,decide_eq_true_eq,hf,if_false,Question.cut]
     rfl⟩
  obtain⟨j,w1,hj,hal,hrun⟩:=hch;have hLj:=(hL L[j]).1 (by simp);refine⟨L[j],hLj.1,hLj.2,w1,hal,?_⟩;have hbi1:w1.heap[bi]?=some (.mapIter (some bm) since seen c0):=by rcases hal with rfl|rfl<;>exact hbi
  have hset:=fun o'=>CY (P:=P) (o':=o') hbi1 (fun _ _ _ h=>by cases h)
  simp only[hrun,Array.getElem?_map,Array.getElem?_eq_getElem hj,Option.map_some,Sem.run_bind,hset,Result.andThen];rfl
theorem QD {w:World} {b:Nat} {m:Option Nat} {c d:Nat} {seen:Array Nat} (h:w.heap[b]?=some (.mapIter m c seen d)):∀x,w.cell? ⟨b,x,none⟩=none:=fun x=>by simp[World.cell?,h]
theorem Y3 {o:Oper} {q:AOp} {x:_} {st:_} (hop:o.op=.next x st) (hq:cOp T o=some q) (hs:St T.L g w H) (hr:dR T.L g n a.tmps e) (h:aF T.L q e H K KP):Good T.L g K KP ((execOp a.eval o).run T.L.P w):=by
 cases st with
 |true=>simp only[cOp,hop]at hq;cases hq
 |false=>
 simp only[cOp,hop]at hq;simp only[execOp,hop];obtain⟨ax,hx,rfl⟩:=map_some hq;have hrm:=bQ hx hr;simp only[aF]at h;unfold nextK at h;split at h
 ·rename_i id hm
  rw[hm]at hrm;generalize hv:a.eval x=v at hrm
  cases hrm with|ptr _ _ s hb h0=>
  split at h
  ·rename_i since seen last ho
   obtain⟨s',k1,k2,k3⟩:=hs.obj id _ ho;rw[hb]at k1;cases k1;have hg1:=kD (P:=T.L.P) k3 (fun _ _ _ h=>by cases h);refine bq (v:=.tuple #[.bool false]) ?_ (aP hs (.tup [_] _ (.cons _ _ _ _ (.bool _) .nil)) h);simp[Instr.next,Sem.run_bind,hg1,Result.andThen]
  ·rename_i mid since seen last ho
   split at h
   ·rename_i es c hm2
    obtain⟨⟨rfl,rfl⟩,h1,h2⟩:=h;obtain⟨s',k1,k2,sm,k3,k4⟩:=hs.obj id _ ho;rw[hb]at k1;cases k1;obtain⟨sm',ents,q1,q2,q3,q4,q5,q6,q7,q8⟩:=hs.obj mid _ hm2;rw[k3]at q1;cases q1
    have hold:∀x∈ents.toList,x.born<last:=fun x hx=>by
     have:x.born∈es.map (·.2.2):=by rw[←q5];exact List.mem_map.2 ⟨x,hx,rfl⟩
     obtain⟨p,hp,e1⟩:=List.mem_map.1 this;rw[←e1];exact q7 p hp
    rcases Qh (P:=T.L.P) w o.type s.b sm.b last last seen.toArray ents last k4 q2 hold (Nat.le_refl _)with⟨r1,r2⟩|⟨en,r1,r2,w1,r3,r4⟩
    ·refine bq r2 (aP hs (.tup [_] _ (.cons _ _ _ _ (.bool _) .nil)) (h2 fun p hp=>?_))
     have:p.2.2∈ents.toList.map (·.born):=by rw[q5];exact List.mem_map.2 ⟨p,hp,rfl⟩
     obtain⟨x,hx,e1⟩:=List.mem_map.1 this;rw[←e1];simpa using r1 x hx
    ·obtain⟨i,hi⟩:=List.mem_iff_getElem?.1 r1
     obtain⟨p,hp,e1⟩:=SF q5 hi;obtain⟨kv,a1,a2⟩:=q3.at i p.1 (by simp[hp]);obtain⟨vv,b1,b2⟩:=q4.at i p.2.1 (by simp[hp]);simp only[List.getElem?_map,hi,Option.map_some,Option.some.injEq]at a1 b1;subst a1 b1
     have hs1:St T.L g w1 H:=by
      rcases r3 with rfl|rfl
      ·exact hs
      ·exact hs.drew
     have hw1:w1.heap=w.heap:=by rcases r3 with rfl|rfl<;>rfl
     have k4':w1.heap[s.b]?=some (.mapIter (some sm.b) last seen.toArray last):=by rw[hw1];exact k4
     obtain⟨p1,p2,p3⟩:=o7 w1 (o':=.mapIter (some sm.b) last (seen.toArray.push en.born) last) k4';have hres:=h1 p (List.mem_of_getElem? hp) (by rw[e1];simpa using r2);refine bq r4 ⟨_,_,g,hres,aA.le.refl g,?_,.tup [_,_,_] _ (.cons _ _ _ _ (.bool _) (.cons _ _ _ _ a2 (.cons _ _ _ _ b2 .nil)))⟩
     refine hs1.L8 ho rfl hb (aA.le.refl g) rfl rfl rfl (fun _ _ _=>rfl) (fun v s h=>.inl h) (fun _=>hb) (.inl rfl) (by rw[p3];exact hs1.bnd _ _ _ hb) (hs1.IE (QD k4')) (by rw[k4'];simp)
      (fun b hb _=>p2 b hb) (by rw[p3];omega) rfl rfl rfl ⟨s,hb,k2,sm,k3,?_⟩
     rw[p1,e1];simp
   ·exact h.elim
  ·exact h.elim
 ·exact h.elim
theorem V6 {o:Oper} {q:AOp} {x:_} (hop:o.op=.entry x) (hq:cOp T o=some q) (hs:St T.L g w H) (hr:dR T.L g n a.tmps e) (h:aF T.L q e H K KP):Good T.L g K KP ((execOp a.eval o).run T.L.P w):=by
 simp only[cOp,hop]at hq;simp only[execOp,hop];obtain⟨ax,hx,rfl⟩:=map_some hq;have hrm:=bQ hx hr;simp only[aF]at h
 cases hen:x9 H (ev e ax)with
 |none=>simp only[hen]at h
 |some r=>
 simp only[hen]at h;unfold x9 at hen;split at hen
 ·rename_i id hm
  rw[hm]at hrm;generalize hv:a.eval x=v at hrm
  cases hrm with|ptr _ _ s hb h0=>
  split at hen
  ·rename_i mid since seen last ho
   split at hen
   ·rename_i es c b hm2 hl
    split at hen
    ·rename_i hcl
     subst hcl;obtain⟨p,hp,rfl⟩:=map_some hen;obtain⟨s',k1,k2,sm,k3,k4⟩:=hs.obj id _ ho;rw[hb]at k1;cases k1;obtain⟨sm',ents,q1,q2,q3,q4,q5,q6,q7,q8⟩:=hs.obj mid _ hm2;rw[k3]at q1;cases q1;have hpm:=List.mem_of_find?_eq_some hp;have hpb:p.2.2=b:=by have:=List.find?_some hp;simpa using this
     obtain⟨i,hi⟩:=List.mem_iff_getElem?.1 hpm;obtain⟨en,hen,e1⟩:=SF q5.symm hi;obtain⟨kv,a1,a2⟩:=q3.at i p.1 (by simp[hi]);obtain⟨vv,b1,b2⟩:=q4.at i p.2.1 (by simp[hi]);simp only[List.getElem?_map,hen,Option.map_some,Option.some.injEq]at a1 b1;subst a1 b1;have hg1:=kD (P:=T.L.P) k4 (fun _ _ _ h=>by cases h);have hg2:=kD (P:=T.L.P) q2 (fun _ _ _ h=>by cases h);have hbk:seen.toArray.back?=some b:=by rw[←hl];simp
     have hf:ents.find? (·.born==b)=some en:=by
      rw[←Array.find?_toList,←hpb,←e1];exact find_born en ents.toList (by rw[q5];exact q8) (List.mem_of_getElem? hen)
     refine bq (v:=.tuple #[en.key,en.val]) ?_ (aP hs (.tup [_,_] _ (.cons _ _ _ _ a2 (.cons _ _ _ _ b2 .nil))) h);simp only[Instr.entry,Sem.run_bind,hg1,hg2,Result.andThen,hbk,bne_self_eq_false,Bool.false_eq_true,if_false,hf];rfl
    ·cases hen
   ·cases hen
  ·cases hen
 ·cases hen
end Go.Ag
/- Abstract code tells what the machine's code does. -/
namespace Go.Ag
open Go
open Go.RowKit (Below)
variable {T : Tab} {g : aA} {w : World} {H : Heap} {K KP : au → Heap → Prop} {e : Env} {a : Act} {n : Nat}
theorem tF {α:Type} {xs:Array α} {a b:α} (h:xs.toList=[a,b]):xs= #[a,b]:=by apply Array.ext';exact h
theorem p8 {α:Type} {xs:Array α} {a:α} (h:xs.toList=[a]):xs= #[a]:=by apply Array.ext';exact h
theorem s_len {o:Oper} {q:AOp} {args:Array Operand} {ats:Array TypeId} (hop:o.op=.call {callee:=.builtin .len,args:=args,argTypes:=ats}) (hq:cOp T o=some q) (hs:St T.L g w H) (hr:dR T.L g n a.tmps e) (h:aF T.L q e H K KP):
  Good T.L g K KP ((execOp a.eval o).run T.L.P w):=by
 simp only[cOp,hop]at hq;simp only[execOp,hop];split at hq
 ·rename_i t x e1 e2
  have h1:=p8 e1;have h2:=p8 e2;subst h1;subst h2
  cases hu:T.L.P.underlying t with
  |none=>simp only[hu]at hq;cases hq
  |some d=>
   cases hx:cX T x with
   |none=>cases d<;>simp only[hu,hx]at hq<;>cases hq
   |some ax=>
    have hrx:=bQ hx hr
    have key:(∃m,(Builtin.len_ #[t] o.type #[a.eval x]).run T.L.P w=.ok (.int .i64 m) w∧K (.int .i64 m) H)→Good T.L g K KP ((do let d←resolve a.eval {callee:=.builtin .len,args:= #[x],argTypes:= #[t]} o.type;invoke d.target d.args:Sem Next).run T.L.P w):=by
     rintro⟨m,hm,hK⟩
     have:((do let d←resolve a.eval {callee:=.builtin .len,args:= #[x],argTypes:= #[t]} o.type;invoke d.target d.args:Sem Next).run T.L.P w)=.ok (.value (.int .i64 m)) w:=by
      simp[resolve,invoke,builtin,hm]
     rw[this];exact aP hs (.int _ _) hK
    cases d<;>simp only[hu,hx]at hq<;>cases hq<;>simp only[aF]at h<;>apply key
    ·cases hb:ev e ax<;>simp only[hb]at h
     rename_i s;rw[hb]at hrx;refine⟨_,?_,h⟩;have hsz:(⟨s.toArray⟩:ByteArray).size=s.length:=by simp[ByteArray.size]
     rw[iQ hrx,←hsz];unfold Builtin.len_;simp[run_underlying hu,goInt]
    ·cases hb:ev e ax<;>simp only[hb]at h<;>rw[hb]at hrx<;>generalize a.eval x=v at hrx⊢ <;>cases hrx<;>refine⟨_,?_,h⟩<;>unfold Builtin.len_<;>simp[run_underlying hu,goInt]
    ·unfold uo at h
     cases hb:lG H (ev e ax)<;>simp only[hb,Option.map_none,Option.map_some]at h;rename_i es;refine⟨_,?_,h⟩;rcases Ed hs hb hrx with⟨hv,rfl⟩|⟨b,ents,clock,hv,hbb,k1,k2⟩
     ·rw[hv];unfold Builtin.len_;simp[run_underlying hu,goInt]
     ·rw[hv]
      have hlen:ents.size=es.length:=by have:=k1.length;simpa using this
      unfold Builtin.len_;simp[run_underlying hu,goInt,MapKept.run_getObj_map hbb,hlen]
 ·cases hq
theorem V7 {o:Oper} {q:AOp} {args:Array Operand} {ats:Array TypeId} (hop:o.op=.call {callee:=.builtin .clear,args:=args,argTypes:=ats}) (hq:cOp T o=some q) (hs:St T.L g w H) (hr:dR T.L g n a.tmps e) (h:aF T.L q e H K KP):
  Good T.L g K KP ((execOp a.eval o).run T.L.P w):=by
 simp only[cOp,hop]at hq;simp only[execOp,hop];split at hq
 ·rename_i t x e1 e2
  have h1:=p8 e1;have h2:=p8 e2;subst h1;subst h2
  cases hu:T.L.P.underlying t with
  |none=>simp only[hu]at hq;cases hq
  |some d=>
   cases hx:cX T x with
   |none=>cases d<;>simp only[hu,hx]at hq<;>cases hq
   |some ax=>
    have hrx:=bQ hx hr;cases d<;>simp only[hu,hx]at hq<;>try(cases hq;done)
    rename_i el
    cases hi:T.L.P.info? el with
    |none=>simp only[hi]at hq;cases hq
    |some inf=>
     cases hz:inf.zero with
     |none=>simp only[hi,hz]at hq;cases hq
     |some z=>
      simp only[hi,hz]at hq;split at hq
      ·cases hzv:cVal z with
       |none=>simp only[hzv]at hq;cases hq
       |some zv=>
        simp only[hzv]at hq;split at hq
        ·rename_i hc
         cases hq;simp only[Bool.and_eq_true,beq_iff_eq]at hc;simp only[aF]at h
         cases hm:IV inf.size zv H (ev e ax)with
         |none=>simp only[hm]at h
         |some H'=>
          simp only[hm]at h;obtain⟨w',r1,r2⟩:=Rn hs (ty:=o.type) hu hi hz hzv hc.1 hc.2 hrx hm
          have:((do let d←resolve a.eval {callee:=.builtin .clear,args:= #[x],argTypes:= #[t]} o.type;invoke d.target d.args:Sem Next).run T.L.P w)=.ok (.value (.tuple #[])) w':=by
           simp[resolve,invoke,builtin,r1]
          rw[this];exact⟨.tup [],H',g,h,aA.le.refl g,r2,.tup [] [] .nil⟩
        ·cases hq
      ·cases hq
 ·cases hq
theorem Sg {o:Oper} {q:AOp} {args:Array Operand} {ats:Array TypeId} (hop:o.op=.call {callee:=.builtin .append,args:=args,argTypes:=ats}) (hq:cOp T o=some q) (hs:St T.L g w H) (hr:dR T.L g n a.tmps e) (h:aF T.L q e H K KP):
  Good T.L g K KP ((execOp a.eval o).run T.L.P w):=by
 simp only[cOp,hop]at hq;simp only[execOp,hop];split at hq
 ·rename_i t u s x e1 e2
  have h1:=tF e1;have h2:=tF e2;subst h1;subst h2
  cases hsx:cX T s with
  |none=>simp only[hsx]at hq;cases hq
  |some abJ=>
   cases hx:cX T x with
   |none=>simp only[hsx,hx]at hq;cases hq
   |some ax=>
    simp only[hsx,hx]at hq;have hrs:=bQ hsx hr;have hrx:=bQ hx hr
    have fin:(∃z' w' x' H' g',(Builtin.append_ #[t,u] o.type #[a.eval s,a.eval x]).run T.L.P w=.ok z' w'∧K x' H'∧g.le g'∧St T.L g' w' H'∧Rep T.L g' z' x')→
      Good T.L g K KP ((do let d←resolve a.eval {callee:=.builtin .append,args:= #[s,x],argTypes:= #[t,u]} o.type;invoke d.target d.args:Sem Next).run T.L.P w):=by
     rintro⟨z',w',x',H',g',r1,r2,r3,r4,r5⟩
     have:((do let d←resolve a.eval {callee:=.builtin .append,args:= #[s,x],argTypes:= #[t,u]} o.type;invoke d.target d.args:Sem Next).run T.L.P w)=.ok (.value z') w':=by
      simp[resolve,invoke,builtin,r1]
     rw[this];exact⟨x',H',g',r2,r3,r4,r5⟩
    apply fin;split at hq
    ·rename_i htu
     subst htu;unfold Pq at hq
     cases hu:T.L.P.underlying t with
     |none=>simp only[hu]at hq;cases hq
     |some d=>
      cases d<;>simp only[hu]at hq<;>try(cases hq;done)
      rename_i el;cases hi:T.L.P.info? el<;>cases htt:T.ty el<;>simp only[hi,htt]at hq<;>try(cases hq;done)
      rename_i i tt
      cases hz:i.zero with
      |none=>simp only[hz]at hq;cases hq
      |some z=>
       simp only[hz]at hq;split at hq
       ·rename_i hc
        cases hq;simp only[aF]at h;unfold lH at h;cases hb:ev e abJ<;>simp only[hb]at h
        case vec id ver k' off len=>
         cases hb2:ev e ax<;>simp only[hb2]at h;rename_i ys tk';rw[hb]at hrs;rw[hb2]at hrx;obtain⟨k1,⟨rfl,rfl,k2⟩,k3,k4,h⟩:=h
         cases hH:H[id]? with
         |none=>rw[hH]at h;exact h.elim
         |some ob=>
          cases ob<;>simp only[hH]at h;obtain⟨⟨rfl,k5,rfl,k6⟩,nv,k7,hK⟩:=h;obtain⟨z',w',g',r1,r2,r3,r4⟩:=L6 hs (ty:=o.type) hu hi hz hc.1 hc.2.1 (Tab.w9 htt) hrs hH k5 k7 hrx k2 k6 k1 k3 k4;exact⟨z',w',_,_,g',r1,hK,r2,r3,r4⟩
        rename_i xs tk;cases hb2:ev e ax<;>simp only[hb2]at h;rename_i ys tk';rw[hb]at hrs;rw[hb2]at hrx;obtain⟨k1,k2,k3,k4,k5⟩:=h;exact I4 hs (ty:=o.type) hu hi hz hc.1 hc.2.1 (Tab.w9 htt) hrs hrx k1 k2 k3 k4 k5
       ·cases hq
    ·unfold Lu at hq
     cases hu:T.L.P.underlying t with
     |none=>simp only[hu]at hq;cases hq
     |some d=>
      cases huu:T.L.P.underlying u with
      |none=>cases d<;>simp only[hu,huu]at hq<;>cases hq
      |some d'=>
       cases d<;>cases d'<;>simp only[hu,huu]at hq<;>try(cases hq;done)
       rename_i el;cases hi:T.L.P.info? el<;>cases htt:T.ty el<;>simp only[hi,htt]at hq<;>try(cases hq;done)
       rename_i i tt
       cases hz:i.zero with
       |none=>simp only[hz]at hq;cases hq
       |some z=>
        simp only[hz]at hq;split at hq
        ·rename_i hc
         cases hq;simp only[aF]at h;unfold Gy at h;cases hb:ev e abJ<;>simp only[hb]at h;rename_i xs tk;cases hb2:ev e ax<;>simp only[hb2]at h;rename_i y;rw[hb]at hrs;rw[hb2]at hrx;obtain⟨k1,k3,k4,k5⟩:=h;exact EX hs (ty:=o.type) hu huu hi hz hc.1 hc.2.1 (Tab.w9 htt) hrs hrx k1 k3 k4 k5
        ·cases hq
 ·cases hq
theorem s_ssd {o:Oper} {q:AOp} {args:Array Operand} {ats:Array TypeId} (hop:o.op=.call {callee:=.builtin .unsafeSliceData,args:=args,argTypes:=ats}) (hq:cOp T o=some q) (hs:St T.L g w H) (hr:dR T.L g n a.tmps e) (h:aF T.L q e H K KP):
  Good T.L g K KP ((execOp a.eval o).run T.L.P w):=by
 simp only[cOp,hop]at hq;simp only[execOp,hop];split at hq
 ·rename_i x e1
  have h1:=p8 e1;subst h1;obtain⟨ax,hx,rfl⟩:=map_some hq;have hrx:=bQ hx hr;simp only[aF]at h;cases hb:ev e ax<;>simp only[hb]at h;rename_i xs tk;rw[hb]at hrx;obtain⟨ad,c,k,b,off,vs,hv,ha,hf,hk,hc,ht,hrep⟩:=lS hrx;obtain⟨hne,hK⟩:=h
  have hrun:(Builtin.unsafeSliceData_ ats o.type #[a.eval x]).run T.L.P w=.ok (.pointer ad) w:=by
   rw[hv]
   cases ad with
   |none=>rfl
   |some ad=>
    have hc0:c≠0:=by
     rcases hne with hne|rfl
     ·intro e0
      have:xs.length=0:=by omega
      exact hne (List.eq_nil_of_length_eq_zero this)
     ·obtain⟨e0,_⟩:=ht;cases e0
    exact Lib.run_unsafeSliceData_row _ _ _ _ _ _ hc0
  have:((do let d←resolve a.eval {callee:=.builtin .unsafeSliceData,args:= #[x],argTypes:=ats} o.type;invoke d.target d.args:Sem Next).run T.L.P w)=.ok (.value (.pointer ad)) w:=by
   simp[resolve,invoke,builtin,hrun]
  rw[this];exact aP hs (.qN ad c k b off xs vs tk ha hf hk hc ht hrep) hK
 ·cases hq
theorem mX (w:World) (a:Addr) (m b:Nat) (h:b≠a.block):(w.freeze a m).heap[b]?=w.heap[b]?:=by
 unfold World.freeze;split
 ·rfl
 ·simp[Array.getElem?_modify,Ne.symm h]
theorem Bu (w:World) (a:Addr) (m:Nat):(w.freeze a m).heap.size=w.heap.size:=by
 unfold World.freeze;split
 ·rfl
 ·simp
theorem KO (w:World) (a:Addr) (m:Nat) (c:Addr):(w.freeze a m).cell? c=w.cell? c:=by
 by_cases hb:c.block=a.block
 ·unfold World.freeze
  split
  ·rfl
  ·simp only[World.cell?,Array.getElem?_modify,hb,if_true]
   cases ho:w.heap[a.block]? with
   |none=>rfl
   |some o=>cases o<;>rfl
 ·simp only[World.cell?,mX w a m c.block hb]
theorem St.gone {H:Heap} {id k t:Nat} {s:ko} (h:St T.L g w H) (hid:H[id]?=some (.tail k t)) (hs:g.ob id k=some s) (m:Nat):St T.L g (w.freeze ⟨s.b,0,none⟩ m) (H.set id .gone):=by
 have hlt:id<H.length:=by
  rcases Nat.lt_or_ge id H.length with h'|h'
  ·exact h'
  ·rw[List.getElem?_eq_none h']at hid;cases hid
 have hget:∀(i:Nat) (o:aU),(H.set id .gone)[i]?=some o→(i≠id∧H[i]?=some o)∨(i=id∧o=.gone):=by
  intro i o hi
  by_cases hii:i=id
  ·subst hii;simp[hlt]at hi;exact .inr ⟨rfl,hi.symm⟩
  ·rw[List.getElem?_set_ne (Ne.symm hii)]at hi;exact .inl ⟨hii,hi⟩
 obtain⟨s0,vs0,e1,_,_,e3,_,_,e6⟩:=h.obj id _ hid;rw[hs]at e1;cases e1;refine⟨fun b o v hv=>(KO w _ m _).trans (h.fz b o v hv),fun i o ho=>?_,fun i v hi=>h.new i v (by simpa using hi),fun i v s' hs'=>by rw[Bu];exact h.bnd i v s' hs',fun i j o o' s1 s2 hi hj ha ha' f1 f2 hb=>?_,?_,h.bs,h.fact,fun b o hk=>(mX w _ m _ (h.Oz e6 hk)).trans (h.kp b o hk),h.IK e3 (by simp) fun b hb=>mX w _ m _ hb⟩
 ·rcases hget i o ho with⟨hii,ho⟩|⟨_,rfl⟩
  ·refine(h.obj i o ho).keep (aA.le.refl g) (fun _=>rfl) fun ha s' hs'=>⟨mX w _ m _ fun e=>hii ?_,fun _=>rfl⟩
   exact h.inj i id o _ s' s ho hid ha rfl hs' hs e
  ·trivial
 ·rcases hget i o hi with⟨_,hi⟩|⟨_,rfl⟩
  ·rcases hget j o' hj with⟨_,hj⟩|⟨_,rfl⟩
   ·exact h.inj i j o o' s1 s2 hi hj ha ha' f1 f2 hb
   ·cases ha'
  ·cases ha
 ·refine h.below.trans ⟨?_,?_,?_,by rw[Bu];omega,fun b hb=>mX w _ m b ?_⟩
  ·unfold World.freeze;split<;>rfl
  ·unfold World.freeze;split<;>rfl
  ·unfold World.freeze;split<;>rfl
  ·have:g.base≤s.b:=e6.1
   have:b<g.base:=hb;show b≠s.b;omega
theorem Y0 {o:Oper} {q:AOp} {args:Array Operand} {ats:Array TypeId} (hop:o.op=.call {callee:=.builtin .unsafeString,args:=args,argTypes:=ats}) (hq:cOp T o=some q) (hs:St T.L g w H) (hr:dR T.L g n a.tmps e) (h:aF T.L q e H K KP):
  Good T.L g K KP ((execOp a.eval o).run T.L.P w):=by
 simp only[cOp,hop]at hq;simp only[execOp,hop];split at hq
 ·rename_i pt it p m e1 e2
  have h1:=tF e1;have h2:=tF e2;subst h1;subst h2
  cases hu:T.L.P.underlying pt with
  |none=>simp only[hu]at hq;cases hq
  |some d=>
   cases hp:cX T p with
   |none=>cases d<;>simp only[hu,hp]at hq<;>cases hq
   |some ap=>
    cases hm:cX T m with
    |none=>cases d<;>simp only[hu,hp,hm]at hq<;>cases hq
    |some am=>
     cases d<;>simp only[hu,hp,hm]at hq<;>try(cases hq;done)
     rename_i el;split at hq
     ·rename_i hcells
      obtain⟨te,hte,rfl⟩:=map_some hq;have hrp:=bQ hp hr;have hrm:=bQ hm hr;simp only[aF]at h;cases hb1:ev e ap<;>cases hb2:ev e am<;>simp only[hb1,hb2]at h;rename_i xs tk kk mm;cases kk<;>simp only at h;obtain⟨rfl,hbig,h⟩:=h;cases hby:jT xs<;>simp only[hby]at h;rename_i s;rw[hb1]at hrp;rw[hb2]at hrm;have hmv:=gG hrm;generalize hpv:a.eval p=pv at hrp
      cases hrp with
      |qN ad c k b off _ vs _ ha hf hk hc ht hrep=>
       have fin:∀s' w',(Builtin.unsafeString_ #[pt,it] o.type #[.pointer ad,.int .i64 xs.length]).run T.L.P w=.ok (.string s') w'→
         Good T.L g K KP (.ok (.value (.string s')) w')→Good T.L g K KP ((do let d←resolve a.eval {callee:=.builtin .unsafeString,args:= #[p,m],argTypes:= #[pt,it]} o.type;invoke d.target d.args:Sem Next).run T.L.P w):=by
        intro s' w' hrun hg
        have:((do let d←resolve a.eval {callee:=.builtin .unsafeString,args:= #[p,m],argTypes:= #[pt,it]} o.type;invoke d.target d.args:Sem Next).run T.L.P w)=.ok (.value (.string s')) w':=by
         simp[resolve,invoke,builtin,hpv,hmv,hrun]
        rw[this];exact hg
       cases tk with
       |full=>exact h.elim
       |none=>exact h.elim
       |nil=>
        obtain⟨rfl,rfl⟩:=ht;have hx0:xs=[]:=List.eq_nil_of_length_eq_zero (by omega);subst hx0;exact fin _ _ (Lib.run_unsafeString_none w pt it o.type none) (aP hs (.str _) h)
       |tail id=>
        dsimp only at h
        cases hH:H[id]? with
        |none=>rw[hH]at h;exact h.elim
        |some ob=>
         cases ob<;>simp only[hH]at h;rename_i kk tt;obtain⟨⟨rfl,rfl,hne⟩,hK⟩:=h;obtain⟨sp,hs1,hs2,hs3,hs4,hs5,hs6⟩:=ht;obtain⟨s0,cur,f1,f0,f2,f3,f4,f5,f6⟩:=hs.obj id _ hH;rw[hs1]at f1;cases f1;have hab:=ha hne;rw[hs2,f0]at hab;cases hab;have hxs:=wO xs s hby;subst hxs;have hvs:=Aw hrep;have hln:(je s).length=s.length:=by simp[je]
         have hsl:s≠[]:=fun e0=>by subst e0;exact hne rfl
         have hk1:k=1:=by
          cases s with
          |nil=>exact absurd rfl hsl
          |cons x s=>exact(hk (.int .u8 x.toNat) (by simp[je])).symm
         have hsh:w.shape? sp.b=some (el,cur.size):=by
          have:T.L.ty tt=el:=Tab.w9 hte;simp[World.shape?,f3,this]
         have hfit:s.length≤cur.size:=by
          rw[f4];have h5:sp.s+c*k≤sp.z:=hs4;rw[hk1]at h5;omega
         have hrun:=Lib.run_unsafeString_row w pt it o.type el hu hcells sp.b cur.size hsh s hsl hfit (by omega) (fun j x hj=>by
          rw[addr_add];refine hs.fz _ _ _ (hf j _ ?_);rw[hvs]
          simp[hj])
         rw[←hln]at hrun;rw[hs2,f0]at fin;refine fin _ _ hrun ?_;exact⟨.str s,_,g,hK,aA.le.refl g,hs.gone hH hs1 _,.str _⟩
     ·cases hq
 ·cases hq
theorem V9 {o:Oper} {q:AOp} {f:FuncId} {args:Array Operand} {ats:Array TypeId} (hop:o.op=.call {callee:=.value (.func f),args:=args,argTypes:=ats}) (hq:cOp T o=some q) (hs:St T.L g w H) (hr:dR T.L g n a.tmps e) (h:aF T.L q e H K KP):
  Good T.L g K KP ((execOp a.eval o).run T.L.P w):=by
 simp only[cOp,hop]at hq;simp only[execOp,hop]
 cases hf:T.fn f with
 |none=>simp only[hf]at hq;cases hq
 |some k=>
  cases h1:cXs T args.toList with
  |none=>simp only[hf,h1]at hq;cases hq
  |some abJ=>
   simp only[hf,h1]at hq;cases hq;obtain⟨hk,hc⟩:=Tab.vK hf;have:=Gb (KP:=KP) hs hc h (zx h1 hr)
   have e1:((do let d←resolve a.eval {callee:=.value (.func f),args:=args,argTypes:=ats} o.type;invoke d.target d.args:Sem Next).run T.L.P w)=(callFunc (T.L.num k) (args.toList.map a.eval).toArray).run T.L.P w:=by
    rw[←hk];have e2:(args.toList.map a.eval).toArray=args.map a.eval:=by rw[←Array.toList_map]
    rw[e2];simp[resolve,invoke,Deferred.ofValue,Act.eval]
   rw[e1];exact this
theorem V8 {o:Oper} {q:AOp} {t:Tmp} {args:Array Operand} {ats:Array TypeId} (hop:o.op=.call {callee:=.value (.tmp t),args:=args,argTypes:=ats}) (hq:cOp T o=some q) (hs:St T.L g w H) (hr:dR T.L g n a.tmps e) (h:aF T.L q e H K KP):
  Good T.L g K KP ((execOp a.eval o).run T.L.P w):=by
 simp only[cOp,hop]at hq;simp only[execOp,hop];obtain⟨abJ,h1,rfl⟩:=map_some hq;have hrf:Rep T.L g (a.eval (.tmp t)) (e t):=hr.rep t;simp only[aF,ev]at h;cases hb:e t<;>simp only[hb]at h
 case yld id=>
  rw[hb]at hrf;generalize hv:a.eval (.tmp t)=v at hrf
  cases hrf with
  |yld _ s ho=>
   obtain⟨f,tmps,asg,body,h2,h3⟩:=h g w _ s hs (zx h1 hr) ho
   have e1:((do let d←resolve a.eval {callee:=.value (.tmp t),args:=args,argTypes:=ats} o.type;invoke d.target d.args:Sem Next).run T.L.P w)=(Instr.yield s.b (args.toList.map a.eval).toArray).run T.L.P w:=by
    have e2:(args.toList.map a.eval).toArray=args.map a.eval:=by rw[←Array.toList_map]
    rw[e2];simp[resolve,invoke,Deferred.ofValue,hv]
   rw[e1,h2];refine RoundIn.mono h3 fun en w' hh=>?_
   obtain⟨r,H',g',q,hle,hst,hrep⟩:=hh
   cases r with
   |ret x=>obtain⟨v,rfl,hrep⟩:=hrep;exact⟨x,H',g',q,hle,hst,hrep⟩
   |pan x=>obtain⟨v,rfl,hrep⟩:=hrep;exact⟨v,x,H',g',rfl,q,hle,hst,hrep⟩
 rename_i af fi ca;cases af<;>simp only at h;rename_i k;rw[hb]at hrf;generalize hv:a.eval (.tmp t)=v at hrf
 cases hrf with
 |fn f _ vfi vca _ _ hfr hr1 hr2=>
  cases f<;>simp only[LP]at hfr;obtain⟨rfl,hc⟩:=hfr;have hargs:=(hr1.append (zx h1 hr)).append hr2;have:=Gb (KP:=KP) hs hc h hargs
  have e1:((do let d←resolve a.eval {callee:=.value (.tmp t),args:=args,argTypes:=ats} o.type;invoke d.target d.args:Sem Next).run T.L.P w)=(callFunc (T.L.num k) (vfi ++args.toList.map a.eval ++vca).toArray).run T.L.P w:=by
   have e2:(vfi ++args.toList.map a.eval ++vca).toArray=vfi.toArray ++args.map a.eval ++vca.toArray:=by
    apply Array.ext';simp
   rw[e2];simp[resolve,invoke,Deferred.ofValue,hv]
  rw[e1];exact this
theorem V3 {o:Oper} {q:AOp} {x:Operand} (hop:o.op=.panic x) (hq:cOp T o=some q) (hs:St T.L g w H) (hr:dR T.L g n a.tmps e) (h:aF T.L q e H K KP):
  Good T.L g K KP ((execOp a.eval o).run T.L.P w):=by
 simp only[cOp,hop]at hq;obtain⟨ax,h1,rfl⟩:=map_some hq;simp only[execOp,hop];have hrx:=bQ h1 hr;simp only[aF]at h;cases hb:ev e ax<;>simp only[hb]at h;rename_i tt yy;rw[hb]at hrx;generalize hv:a.eval x=v at hrx⊢
 cases hrx with
 |iface t u y hy=>
  have:((do pure (Next.value (←Instr.panic (.iface (T.L.ty tt) u))):Sem Next).run T.L.P w)=.halt (.panic (.iface (T.L.ty tt) u)) w:=by
   simp[Instr.panic]
  rw[this];exact⟨_,H,g,h,aA.le.refl g,hs,.iface _ _ _ hy⟩
theorem yS {o:Oper} {q:AOp} (hq:cOp T o=some q) (hs:St T.L g w H) (hr:dR T.L g n a.tmps e) (h:aF T.L q e H K KP):Good T.L g K KP ((execOp a.eval o).run T.L.P w):=by
 cases hop:o.op with
 |move=>exact Y4 hop hq hs hr h
 |assign=>exact Sd hop hq hs hr h
 |pick=>exact Y2 hop hq hs hr h
 |alloc=>exact Wi hop hq hs hr h
 |box=>exact s_box hop hq hs hr h
 |build=>exact Wd hop hq hs hr h
 |buildSlice=>exact Ho hop hq hs hr h
 |load=>exact Y5 hop hq hs hr h
 |store=>exact VX hop hq hs hr h
 |nilCheck=>exact Mq hop hq hs hr h
 |binOp=>exact Wh hop hq hs hr h
 |unOp=>exact Y1 hop hq hs hr h
 |convert=>exact Qg hop hq hs hr h
 |makeInterface=>exact BL hop hq hs hr h
 |makeFunc=>exact Mr hop hq hs hr h
 |slice=>exact VY hop hq hs hr h
 |fieldAddr=>exact JD hop hq hs hr h
 |field=>exact V5 hop hq hs hr h
 |indexAddr=>exact JC hop hq hs hr h
 |makeSlice=>exact JB hop hq hs hr h
 |index=>exact V4 hop hq hs hr h
 |extract=>exact Qf hop hq hs hr h
 |makeMap=>exact Qe hop hq hs hr h
 |lookup=>exact Sc hop hq hs hr h
 |mapUpdate=>exact JA hop hq hs hr h
 |range=>exact VZ hop hq hs hr h
 |next=>exact Y3 hop hq hs hr h
 |entry=>exact V6 hop hq hs hr h
 |panic=>exact V3 hop hq hs hr h
 |call c=>
  obtain⟨cal,args,ats⟩:=c
  cases cal with
  |value f=>cases f with
   |tmp t=>exact V8 hop hq hs hr h
   |func f=>exact V9 hop hq hs hr h
   |const v=>simp only[cOp,hop]at hq;cases hq
   |global v=>simp only[cOp,hop]at hq;cases hq
  |invoke r m=>simp only[cOp,hop]at hq;cases hq
  |builtin b=>cases b with
   |len=>exact s_len hop hq hs hr h
   |clear=>exact V7 hop hq hs hr h
   |append=>exact Sg hop hq hs hr h
   |unsafeSliceData=>exact s_ssd hop hq hs hr h
   |unsafeString=>exact Y0 hop hq hs hr h
   |_=>simp only[cOp,hop]at hq;cases hq
 |_=>simp only[cOp,hop]at hq;cases hq
def SOK (L:Lnk) (g:aA) (n:Nat) (K:Env→Heap→Prop) (a:Act) (w:World):Prop:=
 ∃e H g',K e H∧g.le g'∧St L g' w H∧dR L g' n a.tmps e∧DOK g g' a.defers
def QOK (L:Lnk) (g:aA) (n:Nat) (Q:BJ→Env→Heap→Prop):Exit→Act→World→Prop
 |.normal,a,w=>SOK L g n (Q .normal) a w
 |.exit i,a,w=>SOK L g n (Q (.exit i)) a w
 |.ret,a,w=>SOK L g n (Q .ret) a w
 |.panic chain,a,w=>∃v x e H g',chain=[⟨v,false,false⟩]∧Q (.pan x) e H∧g.le g'∧St L g' w H∧Rep L g' v x∧DOK g g' a.defers
 |_,_,_=>False
theorem dR.put {g:aA} {tmps:Array Value} (h:dR T.L g n tmps e) {d:Nat} (hd:d<n) {v:Value} {x:au} (hv:Rep T.L g v x):dR T.L g n (tmps.setIfInBounds d v) (upd e d x):=by
 refine⟨by simp[h.size],fun i=>?_⟩;simp only[upd]
 by_cases hi:i=d
 ·subst hi
  rw[if_pos rfl]
  have:(tmps.setIfInBounds i v).getD i undef=v:=by
   have hs:=h.size;simp[Array.getD,hs,hd]
  rw[this];exact hv
 ·rw[if_neg hi]
  have:(tmps.setIfInBounds d v).getD i undef=tmps.getD i undef:=by
   simp only[Array.getD_eq_getD_getElem?];rw[Array.getElem?_setIfInBounds,if_neg (Ne.symm hi)]
  rw[this];exact h.rep i
theorem dR.Wn {g:aA} {a:Act} (h:dR T.L g n a.tmps e) {d:Option Nat} (hd:OT n d=true) {v:Value} {x:au} (hv:Rep T.L g v x):
  dR T.L g n (a.put d v).tmps (bg e d x)∧(a.put d v).defers=a.defers:=by
 cases d with
 |none=>exact⟨h,rfl⟩
 |some d=>exact⟨h.put (by simpa[OT]using hd) hv,rfl⟩
theorem Ew {n:Nat} {ops:Array Oper} {o:Oper} {ao:AO} (h:BG T n ops o=some ao):
  cOp T o=some ao.op∧ao.dst=o.dst∧OT n o.dst=true∧
   (match o.guard with|none=>ao.guard=none|some (j,want)=>∃oj t,ops[j]?=some oj∧oj.dst=some t∧ao.guard=some (t,want)):=by
 unfold BG at h
 cases hq:cOp T o with
 |none=>simp only[hq]at h;cases h
 |some q=>
  simp only[hq]at h;split at h
  ·rename_i hd
   cases hg:o.guard with
   |none=>simp only[hg]at h;cases h;exact⟨rfl,rfl,hd,rfl⟩
   |some p=>
    obtain⟨j,want⟩:=p;simp only[hg]at h
    cases hj:ops[j]? with
    |none=>simp only[hj]at h;cases h
    |some oj=>
     simp only[hj]at h
     cases ht:oj.dst with
     |none=>simp only[ht]at h;cases h
     |some t=>simp only[ht]at h;cases h;exact⟨rfl,rfl,hd,oj,t,hj,ht,rfl⟩
  ·cases h
theorem tY {L:Lnk} {ro:Option Nat} {o:Oper} {a:Act} {w:World} {K KP:au→Heap→Prop} {next:Act→World→Prop} {Q:Exit→Act→World→Prop} (hnd:∀c,o.op≠.defer c) (h:Good L g K KP ((execOp a.eval o).run L.P w))
  (hn:∀v x w' H' g',K x H'→g.le g'→St L g' w' H'→Rep L g' v x→next (a.put o.dst v) w')
  (hp:∀v x w' H' g',KP x H'→g.le g'→St L g' w' H'→Rep L g' v x→Q (.panic [⟨v,false,false⟩]) a w'):Oper.wpIn (FW ro) 0 L.P o a w next Q:=by
 refine⟨fun _ _=>trivial,?_⟩;rw[Oper.semAt_eq _ _ _ hnd];generalize (execOp a.eval o).run L.P w=r at h
 cases r with
 |ok x w'=>
  cases x<;>try exact h.elim
  ·obtain⟨x,H',g',k1,k2,k3,k4⟩:=h;exact hn _ x _ H' g' k1 k2 k3 k4
  ·obtain⟨H',g',k1,k2,k3⟩:=h;exact hn _ _ _ H' g' k1 k2 k3 (.undef _)
  ·rw[Oper.uponIn_enter]
   refine⟨fun hx=>(by cases hx),Et (Calls.mono h fun en w'' hh=>?_)⟩
   cases en with
   |returned v=>obtain⟨x,H',g',k1,k2,k3,k4⟩:=hh;exact hn _ x _ H' g' k1 k2 k3 k4
   |panicked chain=>obtain⟨v,x,H',g',rfl,k1,k2,k3,k4⟩:=hh;exact hp v x _ H' g' k1 k2 k3 k4
   |outgrown=>exact hh.elim
  ·rw[Oper.uponIn_round]
   refine⟨fun hx=>(by cases hx),Mt (RoundIn.mono h fun en w'' hh=>?_)⟩
   cases en with
   |returned v=>obtain⟨x,H',g',k1,k2,k3,k4⟩:=hh;exact hn _ x _ H' g' k1 k2 k3 k4
   |panicked chain=>obtain⟨v,x,H',g',rfl,k1,k2,k3,k4⟩:=hh;exact hp v x _ H' g' k1 k2 k3 k4
   |outgrown=>exact hh.elim
 |halt x w'=>
  cases x<;>try exact h.elim
  obtain⟨x,H',g',k1,k2,k3,k4⟩:=h;exact hp _ x _ H' g' k1 k2 k3 k4
theorem IW {T:Tab} {o:Oper} {q:AOp} (h:cOp T o=some q):∀c,o.op≠.defer c:=fun c e=>by simp[cOp,e]at h
theorem uK {ops:Array Oper} {j:Nat} {oj:Oper} {t:Nat} {b:Bool} {tmps:Array Value} {g:aA} {L:Lnk} (hj:ops[j]?=some oj) (ht:oj.dst=some t) (h:Rep L g (tmps.getD t undef) (.bool b)):yielded ops tmps j=some b:=by
 have hb:=kE h
 have h1:tmps[t]?=some (.bool b):=by
  cases hx:tmps[t]? with
  |none=>
   have:tmps.getD t undef=undef:=by simp[Array.getD_eq_getD_getElem?,hx]
   rw[this]at hb;cases hb
  |some v=>
   have:tmps.getD t undef=v:=by simp[Array.getD_eq_getD_getElem?,hx]
   rw[this]at hb;rw[hb]
 unfold yielded;simp[hj,ht,h1]
theorem yM {L:Lnk} (g:aA):Rep L g undef (.tup []):=.tup [] [] .nil
theorem tq {ops:Array Oper} {j:Nat} {oj:Oper} {t:Nat} {tmps:Array Value} {g:aA} {L:Lnk} (hj:ops[j]?=some oj) (ht:oj.dst=some t) (h:Rep L g (tmps.getD t undef) (.tup [])):yielded ops tmps j=none:=by
 have hb:tmps.getD t undef=.tuple #[]:=by
  generalize tmps.getD t undef=v at h
  cases h with
  |tup vs cs h=>cases h;rfl
 unfold yielded
 cases hx:tmps[t]? with
 |none=>simp[hj,ht,hx]
 |some v=>
  have:tmps.getD t undef=v:=by simp[Array.getD_eq_getD_getElem?,hx]
  rw[this]at hb;subst hb;simp[hj,ht,hx]
theorem Au {n:Nat} {ops:Array Oper}:∀(os:List Oper) (abJ:List AO),qC T n ops os=some abJ→abJ.length=os.length∧∀(i:Nat) (o:Oper),os[i]?=some o→∃ao,abJ[i]?=some ao∧BG T n ops o=some ao
 |[],abJ,h=>by cases h;exact⟨rfl,fun i o h=>by simp at h⟩
 |o::os,abJ,h=>by
  simp only[qC]at h
  cases h1:BG T n ops o with
  |none=>simp only[h1]at h;cases h
  |some ao=>
   cases h2:qC T n ops os with
   |none=>simp only[h1,h2]at h;cases h
   |some aos=>
    simp only[h1,h2]at h;cases h;obtain⟨k1,k2⟩:=Au os aos h2;refine⟨by simp[k1],fun i o' ho=>?_⟩
    cases i with
    |zero=>simp at ho;subst ho;exact⟨ao,rfl,h1⟩
    |succ i=>simpa using k2 i o' (by simpa using ho)
theorem Wt {ro : Option Nat} {n : Nat} {ops : Array Oper} {o : Oper} {ao : AO} {aos : List AO} {g0 : aA} {K : Env → Heap → Prop} {KP : au → Heap → Prop} {next : Act → World → Prop} {Q : Exit → Act → World → Prop} (hc : BG T n ops o = some ao)
  (hP : ∀ v x a w H g, KP x H → g0.le g → St T.L g w H → Rep T.L g v x → DOK g0 g a.defers → Q (.panic [⟨v, false, false⟩]) a w)
  (hn : ∀ a w e H g, g0.le g → St T.L g w H → dR T.L g n a.tmps e → DOK g0 g a.defers → nu T.L aos e H K KP → next a w)
  {a : Act} {w : World} {e : Env} {H : Heap} {g : aA} (hg : g0.le g) (hs : St T.L g w H) (hr : dR T.L g n a.tmps e) (hdf : DOK g0 g a.defers) (h : nu T.L (ao :: aos) e H K KP) :
  (if Region.wanted o (yielded ops a.tmps) then o.wpIn (FW ro) 0 T.L.P a w next Q else (∀ f, o.about T.L.P w a.eval = some f → (FW ro).fn f) ∧ next (a.put o.dst undef) w) := by
 obtain ⟨q1, q2, q3, q4⟩ := Ew hc
 have perform : aF T.L ao.op e H (fun v H' => nu T.L aos (bg e ao.dst v) H' K KP) KP → Oper.wpIn (FW ro) 0 T.L.P o a w next Q := fun hst =>
  tY (IW q1) (yS q1 hs hr hst)
   (fun v x w' H' g' k1 k2 k3 k4 => by
    obtain ⟨p1, p2⟩ := (hr.mono k2).Wn q3 k4
    rw [q2] at k1
    exact hn _ _ _ _ g' (hg.trans k2) k3 p1 (by rw [p2]; exact hdf.mono k2) k1)
   (fun v x w' H' g' k1 k2 k3 k4 => hP v x a w' H' g' k1 (hg.trans k2) k3 k4 (hdf.mono k2))
 simp only [nu] at h
 cases hgd : o.guard with
 | none =>
  rw [hgd] at q4
  simp only [q4] at h
  rw [if_pos (by simp [Region.wanted, hgd])]
  exact perform h
 | some p =>
  obtain ⟨j, want⟩ := p
  rw [hgd] at q4
  obtain ⟨oj, t, e1, e2, e3⟩ := q4
  simp only [e3] at h
  have skip : nu T.L aos (bg e ao.dst (.tup [])) H K KP → next (a.put o.dst undef) w := fun h => by
   obtain ⟨p1, p2⟩ := hr.Wn q3 (yM (L := T.L) g)
   rw [q2] at h
   exact hn _ _ _ _ g hg hs p1 (by rw [p2]; exact hdf) h
  cases hb : e t <;> simp only [hb] at h
  ·rename_i b
   have hy := uK (tmps := a.tmps) e1 e2 (hb ▸ hr.rep t)
   cases want <;> cases b <;> first
    | (rw [if_pos (by simp [Region.wanted, hgd, hy])]; exact perform h)
    | (rw [if_neg (by simp [Region.wanted, hgd, hy])]; exact ⟨fun _ _ => trivial, skip h⟩)
  ·rename_i vs
   cases vs with
   | cons => exact False.elim h
   | nil =>
    have hy := tq (tmps := a.tmps) e1 e2 (hb ▸ hr.rep t)
    rw [if_neg (by simp [Region.wanted, hgd, hy])]
    exact ⟨fun _ _ => trivial, skip h⟩
theorem FI {ro:Option Nat} {n:Nat} {ops:Array Oper} {g0:aA} {K:Env→Heap→Prop} {KP:au→Heap→Prop} {Q:Exit→Act→World→Prop}
  (hK:∀a w e H g,K e H→g0.le g→St T.L g w H→dR T.L g n a.tmps e→DOK g0 g a.defers→Q .normal a w)
  (hP:∀v x a w H g,KP x H→g0.le g→St T.L g w H→Rep T.L g v x→DOK g0 g a.defers→Q (.panic [⟨v,false,false⟩]) a w):
  ∀(os:List Oper) (i:Nat) (abJ:List AO),ops.toList.drop i=os→qC T n ops os=some abJ→∀(a:Act) (w:World) (e:Env) (H:Heap) (g:aA),g0.le g→St T.L g w H→dR T.L g n a.tmps e→DOK g0 g a.defers→
   nu T.L abJ e H K KP→wpOpsIn (FW ro) 0 T.L.P ops Q (List.range' i os.length) a w
 |[],i,abJ,hd,hc,a,w,e,H,g,hg,hs,hr,hdf,h=>by
  cases hc;exact hK a w e H g h hg hs hr hdf
 |o::os,i,abJ,hd,hc,a,w,e,H,g,hg,hs,hr,hdf,h=>by
  simp only[qC]at hc
  cases h1:BG T n ops o with
  |none=>simp only[h1]at hc;cases hc
  |some ao=>
   cases h2:qC T n ops os with
   |none=>simp only[h1,h2]at hc;cases hc
   |some aos=>
    simp only[h1,h2]at hc;cases hc
    have hi:ops[i]?=some o:=by
     have:(ops.toList.drop i)[0]?=some o:=by rw[hd];rfl
     rw[List.getElem?_drop]at this;simpa using this
    have hd':ops.toList.drop (i+1)=os:=by
     have:(ops.toList.drop i).drop 1=os:=by rw[hd];rfl
     rwa[List.drop_drop]at this
    have ih:=FI (ro:=ro) hK hP os (i+1) aos hd' h2;simp only[List.length_cons,List.range'_succ,wpOpsIn,hi];exact Wt h1 hP (fun a w e H g k1 k2 k3 k4 k5=>ih a w e H g k1 k2 k3 k4 k5) hg hs hr hdf h
end Go.Ag

/- Our texts, joined by a program of ours (join.py): part 7 of 9. -/
import Derived.Test.YtmjgjmaljdgcpaaGreatDoorTextF
set_option linter.unusedVariables false
/- Abstract codes, printed by a program of ours (acode.py) out of the given program's form. -/
namespace Go.Ag
open Go
def Pg :aM:=(.mk 2 9 [4] (.seq (.ops [(.d 4 (.mv (.const (.bool false))))]) (.seq (.ops [(.d 5 (.mv 0)),(.d 6 (.mv 1)),(.d 7 (.call 245 [5,6])),(.d 8 (.bin .geq 7 (.const (.i 0)))),(.d 4 (.mv 8))]) .ret)))
def Ll :aM:=(.mk 2 19 [4] (.seq (.ops [(.d 4 (.mv (.const (.i 0))))]) (.seq (.seq (.ops [(.d 6 (.mv 0)),(.d 7 (.jo 6)),(.d 8 (.mv (.const (.i 0))))]) (.block 0 (.loop (.seq (.ops [(.d 9 (.bin .lss 8 7))]) (.seq (.cond 9 .skip (.exit 0)) (.seq (.block 1 (.seq (.ops [(.d 10 (.mv 8)),(.d 5 (.mv 10))]) (.seq (.ops [(.d 11 (.mv 1)),(.d 12 (.mv 0)),(.d 13 (.mv 5)),(.d 14 (.aV 4 12 13)),(.d 15 (.load (some 4) 14)),(.d 16 (.fJ 11 [15]))]) (.cond 16 (.seq (.ops [(.d 17 (.mv 5)),(.d 4 (.mv 17))]) .ret) .skip)))) (.ops [(.d 18 (.bin .add 8 (.const (.i 1)))),(.d 8 (.mv 18))]))))))) (.seq (.ops [(.d 4 (.mv (.const (.i (-1)))))]) .ret))))
def O7 :aM:=(.mk 2 9 [4] (.seq (.ops [(.d 3 (.box 326 1)),(.d 4 (.mv (.const (.bool false))))]) (.seq (.ops [(.d 5 (.mv 0)),(.d 6 (.load (some 2) 3)),(.d 7 (.call 302 [5,6])),(.d 8 (.bin .geq 7 (.const (.i 0)))),(.d 4 (.mv 8))]) .ret)))
def Lg :aM:=(.mk 2 19 [4] (.seq (.ops [(.d 3 (.box 326 1)),(.d 4 (.mv (.const (.i 0))))]) (.seq (.seq (.ops [(.d 6 (.mv 0)),(.d 7 (.jo 6)),(.d 8 (.mv (.const (.i 0))))]) (.block 0 (.loop (.seq (.ops [(.d 9 (.bin .lss 8 7))]) (.seq (.cond 9 .skip (.exit 0)) (.seq (.block 1 (.seq (.ops [(.d 10 (.mv 8)),(.d 5 (.mv 10))]) (.seq (.iy [(.d 12 (.mv 0)),(.d 13 (.mv 5)),(.d 14 (.aV 2 12 13))] (.alt (.d 11 (.load (some 2) 3)) [] (.alt (.d 15 (.load (some 2) 14)) [] (.alt (.d 16 (.bT [1,1] false 11 15)) [] .done .stop) .stop) .stop)) (.cond 16 (.seq (.ops [(.d 17 (.mv 5)),(.d 4 (.mv 17))]) .ret) .skip)))) (.ops [(.d 18 (.bin .add 8 (.const (.i 1)))),(.d 8 (.mv 18))]))))))) (.seq (.ops [(.d 4 (.mv (.const (.i (-1)))))]) .ret))))
def Ph :aM:=(.mk 2 54 [4,5] (.seq (.ops [(.d 4 (.mv (.const (.i 0)))),(.d 5 (.mv (.const (.bool false))))]) (.seq (.ops [(.d 10 (.mv 0)),(.d 11 (.jo 10)),(.d 6 (.mv 11))]) (.seq (.ops [(.d 12 (.mv 6)),(.d 7 (.mv (.const (.i 0)))),(.d 8 (.mv 12))]) (.seq (.block 0 (.loop (.seq (.seq (.ops [(.d 13 (.mv 7)),(.d 14 (.mv 8)),(.d 15 (.bin .lss 13 14))]) (.cond 15 .skip (.exit 0))) (.block 1 (.seq (.ops [(.d 16 (.mv 7)),(.d 17 (.mv 8)),(.d 18 (.bin .add 16 17)),(.d 19 (.pz .u64 18)),(.d 20 (.bin .shr 19 (.const (.int .u64 1)))),(.d 21 (.pz .i64 20)),(.d 9 (.mv 21))]) (.seq (.ops [(.d 22 (.mv 0)),(.d 23 (.mv 9)),(.d 24 (.aV 1 22 23)),(.d 25 (.load none 24)),(.d 26 (.mv 1)),(.d 27 (.call 234 [25,26]))]) (.cond 27 (.ops [(.d 28 (.mv 9)),(.d 29 (.bin .add 28 (.const (.i 1)))),(.d 7 (.mv 29))]) (.ops [(.d 30 (.mv 9)),(.d 8 (.mv 30))])))))))) (.seq (.ops [(.d 31 (.mv 7)),(.d 32 (.mv 7)),(.d 33 (.mv 6)),(.d 34 (.bin .lss 32 33)),(.d 35 (.mv 34)),(.g 36 (.mv 0) 35 true),(.g 37 (.mv 7) 35 true),(.g 38 (.aV 1 36 37) 35 true),(.g 39 (.load none 38) 35 true),(.g 40 (.mv 1) 35 true),(.g 41 (.bin .eql 39 40) 35 true),(.g 42 (.mv 41) 35 true),(.g 43 (.mv 0) 42 false),(.g 44 (.mv 7) 42 false),(.g 45 (.aV 1 43 44) 42 false),(.g 46 (.load none 45) 42 false),(.g 47 (.call 235 [46]) 42 false),(.g 48 (.mv 47) 42 false),(.g 49 (.mv 1) 48 true),(.g 50 (.call 235 [49]) 48 true),(.g 51 (.pick 48 50 (.const (.bool false))) 42 false),(.g 52 (.pick 42 (.const (.bool true)) 51) 35 true),(.d 53 (.pick 35 52 (.const (.bool false)))),(.d 4 (.mv 31)),(.d 5 (.mv 53))]) .ret))))))
def Lp :aM:=(.mk 2 17 [4] (.seq (.ops [(.d 4 (.mv (.const (.bool false))))]) (.seq (.ops [(.d 5 (.mv 0)),(.d 6 (.call 267 [5])),(.d 7 (.mv 6)),(.g 8 (.mv 1) 7 true),(.g 9 (.call 267 [8]) 7 true),(.g 10 (.un .not 9) 7 true),(.d 11 (.pick 7 10 (.const (.bool false)))),(.d 12 (.mv 11)),(.g 13 (.mv 0) 12 false),(.g 14 (.mv 1) 12 false),(.g 15 (.bin .lss 13 14) 12 false),(.d 16 (.pick 12 (.const (.bool true)) 15)),(.d 4 (.mv 16))]) .ret)))
def Gv :aM:=(.mk 1 6 [2] (.seq (.ops [(.d 2 (.mv (.const (.bool false))))]) (.seq (.ops [(.d 3 (.mv 0)),(.d 4 (.mv 0)),(.d 5 (.bin .neq 3 4)),(.d 2 (.mv 5))]) .ret)))
def Lm :aM:=(.mk 1 6 [2] (.seq (.ops [(.d 2 (.mv (.const (.bool false))))]) (.seq (.ops [(.d 3 (.mv 0)),(.d 4 (.mv 0)),(.d 5 (.bin .neq 3 4)),(.d 2 (.mv 5))]) .ret)))
def U0 :aM:=(.mk 3 32 [6] (.seq (.ops [(.d 3 (.box 260 0)),(.d 4 (.box 175 1)),(.d 5 (.box 175 2)),(.d 6 (.mv (.const (.bool false))))]) (.seq (.draw [(.d 10 (.load none 3)),(.d 11 (.aJ 10)),(.d 12 (.aB 0 11)),(.d 13 (.load none 12)),(.d 14 (.load (some 4) 5))] [(.d 15 (.call 149 [13,14])),(.d 7 (.mv 15))]) (.seq (.seq (.draw [(.d 16 (.load none 3)),(.d 17 (.aJ 16)),(.d 18 (.aB 0 17)),(.d 19 (.load none 18)),(.d 20 (.load (some 4) 4)),(.d 23 (.mv (.const (.i 0))))] [(.d 21 (.call 149 [19,20])),(.d 22 (.jo 21))]) (.block 0 (.loop (.seq (.ops [(.d 24 (.bin .lss 23 22))]) (.seq (.cond 24 .skip (.exit 0)) (.seq (.block 1 (.seq (.ops [(.d 25 (.aV 4 21 23)),(.d 26 (.load (some 4) 25)),(.d 9 (.alloc [(.i 0),(.str []),.nl,.nl] 175)),(.n (.store 4 9 26))]) (.seq (.ops [(.d 27 (.mv 7)),(.d 28 (.mkF (.func 238) [] [3,9])),(.d 29 (.call 212 [27,28])),(.d 30 (.un .not 29))]) (.cond 30 (.seq (.ops [(.d 6 (.mv (.const (.bool false))))]) .ret) .skip)))) (.ops [(.d 31 (.bin .add 23 (.const (.i 1)))),(.d 23 (.mv 31))]))))))) (.seq (.ops [(.d 6 (.mv (.const (.bool true))))]) .ret)))))
def Pe :aM:=(.mk 3 9 [4] (.seq (.ops [(.d 3 (.box 175 0)),(.d 4 (.mv (.const (.bool false))))]) (.seq (.ops [(.d 5 (.load none 1)),(.d 6 (.load (some 4) 2)),(.d 7 (.load (some 4) 3)),(.d 8 (.call 239 [5,6,7])),(.d 4 (.mv 8))]) .ret)))
def UG :aM:=(.mk 3 109 [6] (.seq (.ops [(.d 4 (.box 175 1)),(.d 5 (.box 175 2)),(.d 6 (.mv (.const (.bool false))))]) (.seq (.seq (.ops [(.d 10 (.aB 0 4)),(.d 11 (.load none 10)),(.d 12 (.bin .eql 11 (.const (.i 4)))),(.d 13 (.mv 12)),(.g 14 (.aB 0 5) 13 false),(.g 15 (.load none 14) 13 false),(.g 16 (.bin .eql 15 (.const (.i 4))) 13 false),(.d 17 (.pick 13 (.const (.bool true)) 16))]) (.cond 17 (.seq (.ops [(.d 18 (.mv 0)),(.d 19 (.aJ 18)),(.d 20 (.aB 1 19)),(.d 21 (.load none 20)),(.d 22 (.mv 21)),(.g 23 (.aB 0 4) 22 false),(.g 24 (.load none 23) 22 false),(.g 25 (.aB 0 5) 22 false),(.g 26 (.load none 25) 22 false),(.g 27 (.bin .eql 24 26) 22 false),(.d 28 (.pick 22 (.const (.bool true)) 27)),(.d 6 (.mv 28))]) .ret) .skip)) (.seq (.seq (.ops [(.d 29 (.aB 0 4)),(.d 30 (.load none 29)),(.d 31 (.aB 0 5)),(.d 32 (.load none 31)),(.d 33 (.bin .neq 30 32))]) (.cond 33 (.seq (.ops [(.d 6 (.mv (.const (.bool false))))]) .ret) .skip)) (.seq (.seq (.ops [(.d 34 (.aB 0 4)),(.d 35 (.load none 34)),(.d 36 (.bin .neq 35 (.const (.i 5)))),(.d 37 (.mv 36)),(.g 38 (.aB 0 4) 37 true),(.g 39 (.load none 38) 37 true),(.g 40 (.bin .neq 39 (.const (.i 6))) 37 true),(.d 41 (.pick 37 40 (.const (.bool false))))]) (.cond 41 (.seq (.ops [(.d 6 (.mv (.const (.bool true))))]) .ret) .skip)) (.seq (.draw [(.d 42 (.load (some 4) 4)),(.d 43 (.call 150 [42])),(.d 44 (.load (some 4) 5)),(.d 45 (.call 150 [44])),(.d 46 (.build [(.str []),(.str [])] [(0,(1,43)),(1,(1,45))])),(.d 7 (.alloc [(.str []),(.str [])] 326))] [(.n (.store 2 7 46))]) (.seq (.seq (.iy [(.d 47 (.mv 0)),(.d 48 (.aJ 47)),(.d 49 (.aB 2 48))] (.alt (.d 50 (.load none 49)) [] (.alt (.d 51 (.load (some 2) 7)) [] (.alt (.d 52 (.call 277 [50,51])) [] .done .stop) .stop) .stop)) (.cond 52 (.seq (.ops [(.d 6 (.mv (.const (.bool true))))]) .ret) .skip)) (.seq (.ops [(.d 53 (.mv 0)),(.d 54 (.aJ 53)),(.d 55 (.aB 2 54)),(.d 56 (.load none 55)),(.d 57 (.jo 56)),(.d 8 (.mv 57))]) (.seq (.iy [(.d 58 (.mv 0)),(.d 59 (.mv 0)),(.d 60 (.aJ 59)),(.d 61 (.aB 2 60))] (.alt (.d 62 (.load none 61)) [] (.alt (.d 63 (.load (some 2) 7)) [] (.alt (.d 64 (.lit 2 32 [] 1 [(0,63)])) [] (.alt (.d 65 (.append 2 32 326 62 64)) [] (.alt (.d 66 (.aJ 58)) [] (.alt (.d 67 (.aB 2 66)) [] (.alt (.n (.store 1 67 65)) [] .done .stop) .stop) .stop) .stop) .stop) .stop) .stop)) (.seq (.ops [(.d 9 (.mv (.const (.bool false))))]) (.seq (.seq (.ops [(.d 68 (.aB 0 4)),(.d 69 (.load none 68)),(.d 70 (.bin .eql 69 (.const (.i 5))))]) (.cond 70 (.ops [(.d 71 (.mv 0)),(.d 72 (.load (some 4) 4)),(.d 73 (.load (some 4) 5)),(.d 74 (.call 278 [71,72,73])),(.d 9 (.mv 74))]) (.iy [(.d 75 (.mv 0)),(.d 76 (.aB 3 5)),(.d 80 (.aB 3 4))] (.alt (.d 77 (.load none 76)) [] (.alt (.d 78 (.aV 4 77 (.const (.i 0)))) [] (.alt (.d 79 (.load (some 4) 78)) [] (.alt (.d 81 (.load none 80)) [] (.alt (.d 82 (.aV 4 81 (.const (.i 0)))) [] (.alt (.d 83 (.load (some 4) 82)) [] (.alt (.d 84 (.call 202 [75,79,83])) [] (.alt (.d 85 (.mv 84)) [] (.alt (.g 86 (.mv 0) 85 true) [] (.alt (.g 87 (.aB 3 4) 85 true) [] (.alt (.g 88 (.load none 87) 85 true) [] (.alt (.g 89 (.aV 4 88 (.const (.i 1))) 85 true) [] (.alt (.g 90 (.load (some 4) 89) 85 true) [] (.alt (.g 91 (.aB 3 5) 85 true) [] (.alt (.g 92 (.load none 91) 85 true) [] (.alt (.g 93 (.aV 4 92 (.const (.i 1))) 85 true) [] (.alt (.g 94 (.load (some 4) 93) 85 true) [] (.alt (.g 95 (.call 202 [86,90,94]) 85 true) [] (.alt (.d 96 (.pick 85 95 (.const (.bool false)))) [] (.alt (.d 9 (.mv 96)) [] .done .stop) .stop) .stop) .stop) .stop) .stop) .stop) .stop) .stop) .stop) .stop) .stop) .stop) .stop) .stop) .stop) .stop) .stop) .stop) .stop)))) (.seq (.seq (.ops [(.d 97 (.mv 9)),(.d 98 (.un .not 97))]) (.cond 98 (.ops [(.d 99 (.mv 0)),(.d 100 (.mv 0)),(.d 101 (.aJ 100)),(.d 102 (.aB 2 101)),(.d 103 (.load none 102)),(.d 104 (.mv 8)),(.d 105 (.yK 2 103 none (some 104))),(.d 106 (.aJ 99)),(.d 107 (.aB 2 106)),(.n (.store 1 107 105))]) .skip)) (.seq (.ops [(.d 108 (.mv 9)),(.d 6 (.mv 108))]) .ret)))))))))))))
def Ut :aM:=(.mk 3 44 [6] (.seq (.ops [(.d 4 (.box 175 1)),(.d 5 (.box 175 2)),(.d 6 (.mv (.const (.bool false))))]) (.seq (.seq (.ops [(.d 11 (.aB 2 5)),(.d 12 (.load none 11)),(.d 13 (.jo 12)),(.d 14 (.mv (.const (.i 0))))]) (.block 0 (.loop (.seq (.ops [(.d 15 (.bin .lss 14 13))]) (.seq (.cond 15 .skip (.exit 0)) (.seq (.block 1 (.seq (.ops [(.d 16 (.mv 14)),(.d 17 (.aV 1 12 14)),(.d 18 (.load none 17)),(.d 7 (.mv 16)),(.d 8 (.mv 18))]) (.seq (.ops [(.d 20 (.aB 2 4)),(.d 21 (.load none 20)),(.d 22 (.mv 8)),(.d 23 (.call 197 [21,22])),(.d 19 (.mv 23)),(.d 24 (.ext 19 0)),(.d 25 (.ext 19 1)),(.d 9 (.mv 24)),(.d 10 (.mv 25))]) (.seq (.draw [(.d 26 (.mv 10)),(.d 27 (.un .not 26)),(.d 28 (.mv 27)),(.g 29 (.mv 0) 28 false),(.g 30 (.aB 3 4) 28 false),(.g 31 (.load none 30) 28 false),(.g 32 (.mv 9) 28 false),(.g 33 (.aV 4 31 32) 28 false),(.g 34 (.load (some 4) 33) 28 false),(.g 35 (.aB 3 5) 28 false),(.g 36 (.load none 35) 28 false),(.g 37 (.mv 7) 28 false),(.g 38 (.aV 4 36 37) 28 false),(.g 39 (.load (some 4) 38) 28 false)] [(.g 40 (.call 202 [29,34,39]) 28 false),(.g 41 (.un .not 40) 28 false),(.d 42 (.pick 28 (.const (.bool true)) 41))]) (.cond 42 (.seq (.ops [(.d 6 (.mv (.const (.bool false))))]) .ret) .skip))))) (.ops [(.d 43 (.bin .add 14 (.const (.i 1)))),(.d 14 (.mv 43))]))))))) (.seq (.ops [(.d 6 (.mv (.const (.bool true))))]) .ret))))
def Ve :aM:=(.mk 3 13 [6] (.seq (.ops [(.d 4 (.box 175 1)),(.d 5 (.box 175 2)),(.d 6 (.mv (.const (.bool false))))]) (.seq (.ops [(.d 7 (.mv 0)),(.d 8 (.build [.eD,(.bool false),.nl] [(0,(1,7))])),(.d 9 (.box 263 8)),(.d 10 (.load (some 4) 4)),(.d 11 (.load (some 4) 5)),(.d 12 (.call 202 [9,10,11])),(.d 6 (.mv 12))]) .ret)))
def Vd :aM:=(.mk 3 13 [6] (.seq (.ops [(.d 4 (.box 175 1)),(.d 5 (.box 175 2)),(.d 6 (.mv (.const (.bool false))))]) (.seq (.ops [(.d 7 (.mv 0)),(.d 8 (.build [.eD,(.bool false),.nl] [(0,(1,7)),(1,(1,(.const (.bool true))))])),(.d 9 (.box 263 8)),(.d 10 (.load (some 4) 4)),(.d 11 (.load (some 4) 5)),(.d 12 (.call 202 [9,10,11])),(.d 6 (.mv 12))]) .ret)))
def YJ :aM:=(.mk 3 17 [6] (.seq (.ops [(.d 4 (.box 175 1)),(.d 5 (.box 175 2)),(.d 6 (.mv (.const (.bool false))))]) (.seq (.ops [(.d 7 (.mv 0)),(.d 8 (.load (some 4) 4)),(.d 9 (.load (some 4) 5)),(.d 10 (.call 162 [7,8,9])),(.d 11 (.mv 10)),(.g 12 (.mv 0) 11 true),(.g 13 (.load (some 4) 5) 11 true),(.g 14 (.load (some 4) 4) 11 true),(.g 15 (.call 162 [12,13,14]) 11 true),(.d 16 (.pick 11 15 (.const (.bool false)))),(.d 6 (.mv 16))]) .ret)))
end Go.Ag
/- Package sub: what it asks of the library: Contains and Index of pairs on the trail, BinarySearch of names, ContainsFunc. -/
namespace Go.Ag
open Go
variable {T : Tab} {L : Lnk}
structure oN (T:Tab):Prop extends zL T where
 QW:T.has 212 Pg
 KG:T.has 245 Ll
 QO:T.has 277 O7
 KD:T.has 302 Lg
 QX:T.has 197 Ph
 KJ:T.has 234 Lp
 KI:T.has 235 Lm
 ER:T.has 267 Gv
 XG:T.has 202 U0
 QU:T.has 238 Pe
 Xr:T.has 239 UG
 Xf:T.has 278 Ut
 XU:T.has 162 Ve
 XT:T.has 163 Vd
 Zv:T.has 169 YJ
theorem M9 (ER:T.has 267 Gv) (s:Bytes):Pure T.L 267 [.str s] (.bool false):=by
 refine Pure.run (dD (.str _)) (.bool _) (aG ER (by simp[Gv]) ?_);conv=>whnf
 refine⟨.bool (!(s==s)),rfl,?_⟩;rw[beq_self_eq_true];exact Weak.refl _
theorem Kr (KI:T.has 235 Lm) (s:Bytes):Pure T.L 235 [.str s] (.bool false):=by
 refine Pure.run (dD (.str _)) (.bool _) (aG KI (by simp[Lm]) ?_);conv=>whnf
 refine⟨.bool (!(s==s)),rfl,?_⟩;rw[beq_self_eq_true];exact Weak.refl _
theorem Qw (KJ:T.has 234 Lp) (ER:T.has 267 Gv) (a b:Bytes):Pure T.L 234 [.str a,.str b] (.bool (decide (a<b))):=by
 refine Pure.run (gq.at ⟨.str _,.str _,trivial⟩) (.bool _) (aG KJ (by simp[Lp]) ?_);conv=>whnf
 refine(M9 ER a).to ?_;conv=>whnf
 rw[←pF];exact aH (Weak.refl _)
def vw (p:Bytes×Bytes):au:=.agg [.str p.1,.str p.2]
def lD (l:List (Bytes×Bytes)):List au:=l.map vw
structure TrS where
 ver:Nat
 xs:List (Bytes×Bytes)
 len:Nat
def TrS.cur (S:TrS):List (Bytes×Bytes):=S.xs.take S.len
def TrS.ok (S:TrS):Prop:=S.len≤S.xs.length∧(S.ver=0→S.len=0)
def tval (S:TrS):au:=match S.ver with
 |0=>.lst [] .nil
 |v+1=>.vec 4 (v+1) 2 0 S.len
def tobj (S:TrS):aU:=match S.ver with
 |0=>.dead
 |v+1=>.arr (v+1) (lD S.xs) 326
theorem xR (l:List (Bytes×Bytes)):(lD l).length=l.length:=by simp[lD]
theorem Du (n:Nat) (p:Bytes×Bytes):Low n (vw p):=.agg _ (gq.at ⟨.str _,.str _,trivial⟩)
theorem FV (n:Nat) (l:List (Bytes×Bytes)):∀x∈lD l,Low n x:=fun x hx=>by
 obtain⟨p,_,rfl⟩:=List.mem_map.1 hx;exact Du n p
theorem A9 (l:List (Bytes×Bytes)):dB 2 (lD l):=fun x hx=>by
 obtain⟨p,_,rfl⟩:=List.mem_map.1 hx;exact⟨rfl,rfl⟩
theorem qp (S:TrS):Low 5 (tval S):=by
 unfold tval;split
 ·exact .lst _ _ trivial fK
 ·exact .vec _ _ _ _ _ (by decide)
theorem sI (n:Nat) (S:TrS):bI n (tobj S):=by
 unfold tobj;split
 ·trivial
 ·exact FV n _
theorem Qu {H:Heap} {id v t i:Nat} {l:List (Bytes×Bytes)} (h:H[id]?=some (.arr v (lD l) t)) (hi:i<l.length):loadAt H (some 2) (.jv id v (i*2))=some (vw l[i]):=by
 have h2:∀x∈lD l,x.cells.length=2:=fun x hx=>(A9 l x hx).1
 have hl:=iw h2;rw[xR]at hl;simp only[loadAt,fI,h];rw[if_pos ⟨trivial,by rw[hl];omega⟩,sQ i h2]
 have:(lD l).drop i=vw l[i]::(lD l).drop (i+1):=by
  rw[List.drop_eq_getElem_cons (by rw[xR];exact hi)];simp[lD]
 rw[this];rfl
def DW (l:List (Bytes×Bytes)) (p:Bytes×Bytes) (i:Nat):Int:=match l with
 |[]=> -1
 |q::l=>if(p.1==q.1&&p.2==q.2)=true then i else DW l p (i+1)
theorem OG :∀(l:List (Bytes×Bytes)) (p:Bytes×Bytes) (i:Nat),decide (0≤DW l p i)=l.contains p
 |[],p,i=>rfl
 |q::l,p,i=>by
  rw[DW,List.contains_cons];have hpq:(p.1==q.1&&p.2==q.2)=(p==q):=rfl;rw[hpq];cases h:(p==q)
  ·rw[if_neg (by simp),Bool.false_or];exact OG l p (i+1)
  ·rw[if_pos rfl,Bool.true_or];simp
theorem Dl (KD:T.has 302 Lg) (o0 o1 o2 o3:aU) (ho:eX 5 [o0,o1,o2,o3]) (S:TrS) (hS:S.ok) (hl:S.len≤2^40) (p:Bytes×Bytes):
  bX T.L 302 [tval S,vw p] [o0,o1,o2,o3,tobj S] (.int .i64 (DW S.cur p 0)) [o0,o1,o2,o3,tobj S]:=by
 have hlow:∀o∈[o0,o1,o2,o3,tobj S],bI 5 o:=eX.at ⟨ho.1,ho.2.1,ho.2.2.1,ho.2.2.2.1,sI 5 S,trivial⟩;refine bX.of 0 rfl (.int _ _) hlow (aC.mono (Q:=fun r H'=>∃J,r=.ret (.int .i64 (DW S.cur p 0))∧H'=[o0,o1,o2,o3,tobj S] ++J) ?_ fun r H' ⟨J,e1,e2⟩=>⟨_,_,J,e1,Weak.refl _,e2,rfl,fun i x y h1 h2=>by rw[h1]at h2;cases h2;exact bJ.refl x⟩);obtain⟨res,hres⟩:∃res,DW S.cur p 0=res:=⟨_,rfl⟩;rw[hres];refine aG KD (by simp[Lg]) ?_;obtain⟨v,xs,len⟩:=S;obtain⟨p1,p2⟩:=p;obtain⟨hS1,hS2⟩:=hS;unfold TrS.cur at hres;dsimp only at hS1 hS2 hl hres
 cases v with
 |zero=>
  obtain rfl:=hS2 rfl;rw[List.take_zero,DW]at hres;subst hres;conv=>whnf
  intro I hI hG;apply hI;conv=>whnf
  exact⟨_,rfl,rfl⟩
 |succ v=>
  conv=>whnf
  intro I hI hG
  have key:∀(d j:Nat) (e:Env),len-j=d→j≤len→DW ((xs.take len).drop j) (p1,p2) j=res→I (gB e [(0,.vec 4 (v+1) 2 0 len),(3,.ptr 5 0),(7,.int .i64 len),(8,.int .i64 j)]) [o0,o1,o2,o3,.arr (v+1) (lD xs) 326,.cells [.str p1,.str p2] 326]:=by
   intro d
   induction d with
   |zero=>
    intro j e hd hj hr;have hjl:j=len:=by omega
    rw[List.drop_of_length_le (by rw[List.length_take];omega),DW]at hr;subst hr;apply hI;conv=>whnf
    rw[bU (by omega)];conv=>whnf
    exact⟨_,rfl,rfl⟩
   |succ d ihd=>
    intro j e hd hj hr;have hjl:j<len:=by omega
    have hjx:j<xs.length:=by omega
    have hdj:j<(xs.take len).length:=by rw[List.length_take];omega
    rw[List.drop_eq_getElem_cons hdj,DW,List.getElem_take]at hr;have hload:=fun H h=>Qu (H:=H) (id:=4) (v:=v+1) (t:=326) (l:=xs) h hjx
    have hnext:=fun e=>ihd (j+1) e (by omega) hjl
    generalize xs[j]=q at hr hload;obtain⟨q1,q2⟩:=q;apply hI;conv=>whnf
    rw[dz hjl];conv=>whnf
    refine⟨⟨Int.natCast_nonneg _,by omega,rfl⟩,?_⟩;conv=>whnf
    rw[show(0+((j:Nat):Int).toNat)*2=j*2 from by simp];refine nD (hload _ rfl) ?_;conv=>whnf
    dsimp only at hr
    have hgo:∀(e3:Env),fC e3 [(0,.vec 4 (v+1) 2 0 len),(3,.ptr 5 0),(7,.int .i64 len),(8,.int .i64 (j+1:Nat))]→(p1==q1&&p2==q2)=false→I e3 [o0,o1,o2,o3,.arr (v+1) (lD xs) 326,.cells [.str p1,.str p2] 326]:=fun e3 he hne=>by
     rw[if_neg (by rw[hne];simp)]at hr
     exact hG.keep [(0,.vec 4 (v+1) 2 0 len),(3,.ptr 5 0),(7,.int .i64 len),(8,.int .i64 (j+1:Nat))] [o0,o1,o2,o3,.arr (v+1) (lD xs) 326,.cells [.str p1,.str p2] 326] (Nat.le_refl 6) rfl he
      ⟨.vec _ _ _ _ _ (by decide:4<6),.ptr _ _ (by decide:5<6),.int _ _,.int _ _,trivial⟩
      ⟨aI (by decide:5≤6) ho.1,aI (by decide:5≤6) ho.2.1,aI (by decide:5≤6) ho.2.2.1,aI (by decide:5≤6) ho.2.2.2.1,FV 6 _,dH ⟨.str _,.str _,trivial⟩,trivial⟩ (hnext _ hr)
    have hj1:j+1<9223372036854775808:=by omega
    cases hq1:(p1==q1)
    ·conv=>whnf
     exact hgo _ ⟨rfl,rfl,rfl,add1 hj1,trivial⟩ (by rw[hq1];rfl)
    ·cases hq2:(p2==q2)
     ·conv=>whnf
      exact hgo _ ⟨rfl,rfl,rfl,add1 hj1,trivial⟩ (by rw[hq1,hq2];rfl)
     ·rw[if_pos (by rw[hq1,hq2];rfl)]at hr
      subst hr;conv=>whnf
      exact⟨_,rfl,rfl⟩
  exact inv_of [(0,.vec 4 (v+1) 2 0 len),(3,.ptr 5 0),(7,.int .i64 len),(8,.int .i64 0)] ⟨rfl,rfl,rfl,rfl,trivial⟩ (key len 0 _ rfl (Nat.zero_le _) hres)
theorem yQ (QO:T.has 277 O7) (KD:T.has 302 Lg) (o0 o1 o2 o3:aU) (ho:eX 5 [o0,o1,o2,o3]) (S:TrS) (hS:S.ok) (hl:S.len≤2^40) (p:Bytes×Bytes):
  bX T.L 277 [tval S,vw p] [o0,o1,o2,o3,tobj S] (.bool (S.cur.contains p)) [o0,o1,o2,o3,tobj S]:=by
 have hlow:∀o∈[o0,o1,o2,o3,tobj S],bI 5 o:=eX.at ⟨ho.1,ho.2.1,ho.2.2.1,ho.2.2.2.1,sI 5 S,trivial⟩;have hi:=Dl KD o0 o1 o2 o3 ho S hS hl p;have hlv:∀x∈[tval S,vw p],Low 5 x:=gq.at ⟨qp S,Du 5 p,trivial⟩;rw[←OG S.cur p 0];generalize DW S.cur p 0=res at hi⊢;refine bX.of 0 rfl (.bool _) hlow (aC.mono (Q:=fun r H'=>∃J,r=.ret (.bool (decide (0≤res)))∧H'=[o0,o1,o2,o3,tobj S] ++J) ?_ fun r H' ⟨J,e1,e2⟩=>⟨_,_,J,e1,Weak.refl _,e2,rfl,fun i x y h1 h2=>by rw[h1]at h2;cases h2;exact bJ.refl x⟩);refine aG QO (by simp[O7]) ?_;generalize htv:tval S=tv at hi hlv⊢
 have htvf:(∃v len,tv=.vec 4 v 2 0 len)∨tv=.lst [] .nil:=by
  subst htv;unfold tval;split
  ·exact .inr rfl
  ·exact .inl ⟨_,_,rfl⟩
 obtain⟨p1,p2⟩:=p;rcases htvf with⟨v,len,rfl⟩|rfl
 all_goals
  conv=>whnf
  refine hi.to rfl hlv hlow (.int _ _) hlow [.cells [.str p1,.str p2] 326] rfl ?_;conv=>whnf
  exact⟨_,rfl,rfl⟩
end Go.Ag
/- Package sub: BinarySearch of names. -/
namespace Go.Ag
open Go
variable {T : Tab} {L : Lnk}
def l6 (ns:List Bytes) (nm:Bytes):Nat:=(ns.takeWhile fun s=>decide (s<nm)).length
theorem WE (ns:List Bytes) (nm:Bytes):l6 ns nm≤ns.length:=(List.takeWhile_sublist _).length_le
theorem Ii {ns:List Bytes} {nm:Bytes} (hs:ns.Pairwise (· < ·)) {k:Nat} (hk:k<ns.length):ns[k]<nm↔k<l6 ns nm:=by
 induction ns generalizing k with
 |nil=>cases hk
 |cons s ns ih=>
  obtain⟨h1,h2⟩:=List.pairwise_cons.1 hs;unfold l6;rw[List.takeWhile_cons]
  by_cases hlt:s<nm
  ·simp only[hlt,decide_true,if_true,List.length_cons]
   cases k with
   |zero=>simp[hlt]
   |succ k=>
    have:=ih h2 (k:=k) (by simpa using hk);unfold l6 at this;simp only[List.getElem_cons_succ];rw[this];omega
  ·simp only[hlt,decide_false,Bool.false_eq_true,if_false,List.length_nil]
   refine⟨fun h=>?_,fun h=>by omega⟩
   cases k with
   |zero=>exact absurd h hlt
   |succ k=>
    simp only[List.getElem_cons_succ]at h;exact absurd (List.lt_trans (h1 _ (List.getElem_mem _)) h) hlt
theorem yY {ns:List Bytes} {nm:Bytes} (hs:ns.Pairwise (· < ·)):ns[l6 ns nm]?=some nm↔nm∈ns:=by
 refine⟨fun h=>List.mem_of_getElem? h,fun h=>?_⟩;obtain⟨k,hk,rfl⟩:=List.getElem_of_mem h
 have hle:l6 ns ns[k]≤k:=by
  rcases Nat.lt_or_ge k (l6 ns ns[k])with h'|h'
  ·exact absurd ((Ii hs hk).2 h') (List.lt_irrefl _)
  ·exact h'
 have hge:k≤l6 ns ns[k]:=by
  rcases Nat.lt_or_ge (l6 ns ns[k]) k with h'|h'
  ·have hlt:l6 ns ns[k]<ns.length:=by omega
   have:=List.pairwise_iff_getElem.1 hs _ _ hlt hk h';have:=(Ii hs hlt).1 this;omega
  ·exact h'
 have:l6 ns ns[k]=k:=by omega
 rw[this,List.getElem?_eq_getElem hk]
theorem Ze {i j:Nat} (h:i+j≤2^50):IntKind.i64.wrap ((IntKind.u64.wrap (IntKind.i64.wrap ((i:Int)+(j:Int)))).fdiv (2^min (Int.toNat 1) IntKind.u64.bits))=((i+j)/2:Nat):=by
 have e1:IntKind.i64.wrap ((i:Int)+(j:Int))=((i+j:Nat):Int):=by rw[IntWalk.i64_in _ (by omega)];omega
 rw[e1]
 have e2:IntKind.u64.wrap ((i+j:Nat):Int)=((i+j:Nat):Int):=by
  simp only[IntKind.wrap,IntKind.signed,IntKind.bits];simp;omega
 rw[e2]
 have e3:(((i+j:Nat):Int)).fdiv (2^min (Int.toNat 1) IntKind.u64.bits)=(((i+j)/2:Nat):Int):=by
  rw[show(2:Int)^min (Int.toNat 1) IntKind.u64.bits=((2:Nat):Int)from rfl,Int.ofNat_fdiv]
 rw[e3];exact IntWalk.i64_in _ (by omega)
theorem IX (QX:T.has 197 Ph) (KJ:T.has 234 Lp) (KI:T.has 235 Lm) (ER:T.has 267 Gv) (ns:List Bytes) (nm:Bytes) (hs:ns.Pairwise (· < ·)) (hl:ns.length≤2^40):
  Pure T.L 197 [.lst (aO ns) .none,.str nm] (.tup [.int .i64 (l6 ns nm:Nat),.bool (decide (nm∈ns))]):=by
 refine Pure.run (gq.at ⟨dQ _ _ _ trivial,.str _,trivial⟩) (.tup _ (gq.at ⟨.int _ _,.bool _,trivial⟩)) (aG QX (by simp[Ph]) ?_);have hless:=Qw KJ ER;have hnan:=Kr KI;have hlo:=WE ns nm;have hlt:=fun k hk=>Ii (nm:=nm) hs (k:=k) hk
 have hhas:=yY (nm:=nm) hs;generalize l6 ns nm=lo at hlo hlt hhas⊢;conv=>whnf
 intro I hI hG
 have key:∀(d i j:Nat) (e:Env),j-i=d→i≤lo→lo≤j→j≤ns.length→I (gB e [(0,.lst (aO ns) .none),(1,.str nm),(6,.int .i64 ns.length),(7,.int .i64 i),(8,.int .i64 j)]) []:=by
  intro d
  induction d using Nat.strongRecOn with
  |ind d ih=>
   intro i j e hd hi hj hjn;apply hI;conv=>whnf
   by_cases hij:i<j
   ·have hh:(i+j)/2<ns.length:=by omega
    rw[dz hij];conv=>whnf
    rw[Ze (by omega)];have hm1:i≤(i+j)/2:=by omega
    have hm2:(i+j)/2<j:=by omega
    generalize (i+j)/2=m at hh hm1 hm2⊢
    have hget:(aO ns)[((m:Nat):Int).toNat]?=some (.str ns[m]):=by
     rw[Int.toNat_natCast];simp[aO,List.getElem?_map,List.getElem?_eq_getElem hh]
    have hq:=hlt m hh;generalize ns[m]=s at hget hq;refine step_elem (Int.natCast_nonneg _) hget rfl ?_;conv=>whnf
    refine(hless s nm).to ?_;conv=>whnf
    have hm3:m+1<9223372036854775808:=by omega
    by_cases hb:s<nm
    ·rw[decide_eq_true hb]
     have:=hq.1 hb;conv=>whnf
     exact hG.keep [(0,.lst (aO ns) .none),(1,.str nm),(6,.int .i64 ns.length),(7,.int .i64 (m+1:Nat)),(8,.int .i64 j)] [] (Nat.le_refl 0) rfl ⟨rfl,rfl,rfl,add1 hm3,rfl,trivial⟩
      ⟨dQ _ _ _ trivial,.str _,.int _ _,.int _ _,.int _ _,trivial⟩ trivial (ih (j-(m+1)) (by omega) (m+1) j _ rfl (by omega) hj hjn)
    ·rw[decide_eq_false hb]
     have:lo≤m:=by
      rcases Nat.lt_or_ge m lo with h'|h'
      ·exact absurd (hq.2 h') hb
      ·exact h'
     conv=>whnf
     exact hG.keep [(0,.lst (aO ns) .none),(1,.str nm),(6,.int .i64 ns.length),(7,.int .i64 i),(8,.int .i64 m)] [] (Nat.le_refl 0) rfl ⟨rfl,rfl,rfl,rfl,rfl,trivial⟩
      ⟨dQ _ _ _ trivial,.str _,.int _ _,.int _ _,.int _ _,trivial⟩ trivial (ih (m-i) (by omega) i m _ rfl hi (by omega) (by omega))
   ·have hil:i=lo:=by omega
    subst hil;rw[bU (by omega)];conv=>whnf
    by_cases hn:i<ns.length
    ·rw[dz hn]
     have hget:(aO ns)[((i:Nat):Int).toNat]?=some (.str ns[i]):=by
      rw[Int.toNat_natCast];simp[aO,List.getElem?_map,List.getElem?_eq_getElem hn]
     rw[List.getElem?_eq_getElem hn,Option.some_inj]at hhas;generalize ns[i]=s at hget hhas;conv=>whnf
     refine step_elem (Int.natCast_nonneg _) hget rfl ?_;conv=>whnf
     cases hb:(s==nm)
     ·conv=>whnf
      refine step_elem (Int.natCast_nonneg _) hget rfl ?_;conv=>whnf
      refine(hnan s).to ?_;conv=>whnf
      have:decide (nm∈ns)=false:=decide_eq_false fun h=>by rw[hhas.2 h]at hb;simp at hb
      rw[this];exact aH (Weak.refl _)
     ·conv=>whnf
      have:decide (nm∈ns)=true:=decide_eq_true (hhas.1 (by simpa using hb));rw[this];exact aH (Weak.refl _)
    ·rw[bU (by omega)]
     conv=>whnf
     have:decide (nm∈ns)=false:=decide_eq_false fun h=>by
      have:=hhas.2 h;rw[List.getElem?_eq_none (by omega)]at this;cases this
     rw[this];exact aH (Weak.refl _)
 exact inv_of [(0,.lst (aO ns) .none),(1,.str nm),(6,.int .i64 ns.length),(7,.int .i64 0),(8,.int .i64 ns.length)] ⟨rfl,rfl,by show au.int .i64 ((aO ns).length:Nat)=_;rw[fQ],rfl,by show au.int .i64 ((aO ns).length:Nat)=_;rw[fQ],trivial⟩ (key _ 0 ns.length _ rfl (Nat.zero_le _) hlo (Nat.le_refl _))
end Go.Ag
/- Package sub: ContainsFunc with a judge in hand. -/
namespace Go.Ag
open Go
variable {T : Tab} {L : Lnk}
def qD {σ α:Type} (f:σ→α→Option (Bool×σ)):σ→List α→Option (Bool×σ)
 |s,[]=>some (false,s)
 |s,x::l=>match f s x with
  |none=>none
  |some (true,s')=>some (true,s')
  |some (false,s')=>qD f s' l
def anyI {σ α:Type} (f:σ→α→Option (Bool×σ)):Nat→σ→List α→Option (Int×σ)
 |_,s,[]=>some (-1,s)
 |j,s,x::l=>match f s x with
  |none=>none
  |some (true,s')=>some ((j:Int),s')
  |some (false,s')=>anyI f (j+1) s' l
theorem Pw {σ α:Type} {f:σ→α→Option (Bool×σ)}:∀(l:List α) (j:Nat) (s:σ) (b:Bool) (s':σ),qD f s l=some (b,s')→∃i,anyI f j s l=some (i,s')∧decide (0≤i)=b
 |[],j,s,b,s',h=>by cases h;exact⟨-1,rfl,rfl⟩
 |x::l,j,s,b,s',h=>by
  rw[qD]at h;rw[anyI]
  cases hq:f s x with
  |none=>rw[hq]at h;cases h
  |some q=>
   obtain⟨c,s2⟩:=q;rw[hq]at h;cases c
   ·exact Pw l (j+1) s2 b s' h
   ·cases h;exact⟨_,rfl,by simp⟩
variable {σ : Type}
structure PE (T:Tab) (g:Nat) (BB:σ→Heap) (p:σ→Nat→aU) (f:σ→TA→Option (Bool×σ)):Prop where
 hB:∀s,BB s=[p s 0,p s 1,p s 2,p s 3,p s 4,p s 5,p s 6,p s 7,p s 8]
 low:∀s,∀o∈BB s,bI 9 o
 call:∀s y b s',f s y=some (b,s')→bX T.L g [y.av,.ptr 5 0,.ptr 8 0] (BB s) (.bool b) (BB s')
theorem PE.lows {g:Nat} {BB:σ→Heap} {p:σ→Nat→aU} {f:σ→TA→Option (Bool×σ)} (A:PE T g BB p f) (s:σ) (n:Nat) (hn:9≤n):∀i,i<9→bI n (p s i):=fun i hi=>by
 refine aI hn (A.low s _ ?_);rw[A.hB]
 match i,hi with
 |0,_=>simp
 |1,_=>simp
 |2,_=>simp
 |3,_=>simp
 |4,_=>simp
 |5,_=>simp
 |6,_=>simp
 |7,_=>simp
 |8,_=>simp
 |i+9,h=>omega
theorem DV (KG:T.has 245 Ll) {g:Nat} {BB:σ→Heap} {p:σ→Nat→aU} {f:σ→TA→Option (Bool×σ)} (A:PE T g BB p f) (l:List TA) (hl:l.length≤2^40) (s:σ) (i:Int) (s':σ) (h:anyI f 0 s l=some (i,s')):
  bX T.L 245 [.lst (TA.avs l) .none,.fn (.func g) [] [.ptr 5 0,.ptr 8 0]] (BB s) (.int .i64 i) (BB s'):=by
 have hB:=A.hB;have hlen:∀s,(BB s).length=9:=fun s=>by rw[hB];rfl
 refine bX.of 0 (by rw[hlen,hlen]) (.int _ _) (by rw[hlen];exact A.low s') (aC.mono (Q:=fun r H'=>∃J,r=.ret (.int .i64 i)∧H'=BB s' ++J) ?_ fun r H' ⟨J,e1,e2⟩=>⟨_,_,J,e1,Weak.refl _,e2,rfl,fun i x y h1 h2=>by rw[h1]at h2;cases h2;exact bJ.refl x⟩);rw[List.replicate_zero,List.append_nil];obtain⟨fin,hfin⟩:∃fin,BB s'=fin:=⟨_,rfl⟩;rw[hfin];refine aG KG (by simp[Ll]) ?_;rw[hB];conv=>whnf
 intro I hI hG
 have key:∀(d j:Nat) (s1:σ) (e:Env),l.length-j=d→j≤l.length→anyI f j s1 (l.drop j)=some (i,s')→
   I (gB e [(0,.lst (TA.avs l) .none),(1,.fn (.func g) [] [.ptr 5 0,.ptr 8 0]),(7,.int .i64 l.length),(8,.int .i64 j)]) (BB s1):=by
  intro d
  induction d with
  |zero=>
   intro j s1 e hd hj hf;have hjl:j=l.length:=by omega
   rw[hjl,List.drop_length,anyI]at hf;cases hf;subst hfin;apply hI;rw[hB];conv=>whnf
   rw[bU (by omega)];conv=>whnf
   exact⟨_,rfl,(List.append_nil _).symm⟩
  |succ d ihd=>
   intro j s1 e hd hj hf;have hjl:j<l.length:=by omega
   rw[List.drop_eq_getElem_cons hjl,anyI]at hf;have hget:=mP hjl;have hnext:=fun s2 e=>ihd (j+1) s2 e (by omega) hjl
   generalize l[j]=v at hget hf
   cases hq:f s1 v with
   |none=>rw[hq]at hf;cases hf
   |some q=>
    obtain⟨c,s2⟩:=q;rw[hq]at hf;have hc:=A.call s1 v c s2 hq;have hlv:∀x∈[v.av,.ptr 5 0,.ptr 8 0],Low (BB s1).length x:=by rw[hlen];exact gq.at ⟨aQ _ _,.ptr _ _ (by decide),.ptr _ _ (by decide),trivial⟩
    apply hI;rw[hB];obtain⟨vk,vn,vs,vl⟩:=v;conv=>whnf
    rw[dz hjl];conv=>whnf
    refine step_elem (Int.natCast_nonneg _) hget rfl ?_;conv=>whnf
    refine hc.to (by rw[hlen,hlen]) hlv (by rw[hlen];exact A.low _) (.bool _) (by rw[hlen];exact A.low _) [] (by rw[hB];rfl) ?_;cases c
    ·have hf:anyI f (j+1) s2 (l.drop (j+1))=some (i,s'):=hf
     rw[hB];conv=>whnf
     refine hG.keep [(0,.lst (TA.avs l) .none),(1,.fn (.func g) [] [.ptr 5 0,.ptr 8 0]),(7,.int .i64 l.length),(8,.int .i64 (j+1:Nat))] (BB s2) (by rw[hB];exact Nat.le_refl 9) (by rw[hB];rfl) ⟨rfl,rfl,rfl,add1 (by omega),trivial⟩
      (by rw[hlen];exact⟨.lst _ _ trivial (aY _ l),.fn _ _ _ fK (gq.at ⟨.ptr _ _ (by decide),.ptr _ _ (by decide),trivial⟩),.int _ _,.int _ _,trivial⟩)
      (by rw[hlen,hB];have:=A.lows s2 9 (Nat.le_refl 9);exact⟨this 0 (by decide),this 1 (by decide),this 2 (by decide),this 3 (by decide),this 4 (by decide),this 5 (by decide),this 6 (by decide),this 7 (by decide),this 8 (by decide),trivial⟩) (hnext _ _ hf)
    ·cases hf
     rw[hfin];conv=>whnf
     exact⟨_,rfl,rfl⟩
 have h0:=key l.length 0 s;rw[hB]at h0;exact inv_of [(0,.lst (TA.avs l) .none),(1,.fn (.func g) [] [.ptr 5 0,.ptr 8 0]),(7,.int .i64 l.length),(8,.int .i64 0)] ⟨rfl,rfl,by show au.int .i64 ((TA.avs l).length:Nat)=_;rw[bY],rfl,trivial⟩ (h0 _ rfl (Nat.zero_le _) h)
theorem zw (QW:T.has 212 Pg) (KG:T.has 245 Ll) {g:Nat} {BB:σ→Heap} {p:σ→Nat→aU} {f:σ→TA→Option (Bool×σ)} (A:PE T g BB p f) (l:List TA) (hl:l.length≤2^40) (s:σ) (b:Bool) (s':σ) (h:qD f s l=some (b,s')):
  bX T.L 212 [.lst (TA.avs l) .none,.fn (.func g) [] [.ptr 5 0,.ptr 8 0]] (BB s) (.bool b) (BB s'):=by
 have hB:=A.hB;have hlen:∀s,(BB s).length=9:=fun s=>by rw[hB];rfl
 obtain⟨i,hi,rfl⟩:=Pw l 0 s b s' h;have hx:=DV KG A l hl s i s' hi;have hargs:∀n,9≤n→∀x∈[au.lst (TA.avs l) .none,.fn (.func g) [] [.ptr 5 0,.ptr 8 0]],Low n x:=fun n hn=>gq.at ⟨.lst _ _ trivial (aY _ l),.fn _ _ _ fK (gq.at ⟨.ptr _ _ (by omega),.ptr _ _ (by omega),trivial⟩),trivial⟩
 refine bX.of 0 (by rw[hlen,hlen]) (.bool _) (by rw[hlen];exact A.low s') (aC.mono (Q:=fun r H'=>∃J,r=.ret (.bool (decide (0≤i)))∧H'=BB s' ++J) ?_ fun r H' ⟨J,e1,e2⟩=>⟨_,_,J,e1,Weak.refl _,e2,rfl,fun i x y h1 h2=>by rw[h1]at h2;cases h2;exact bJ.refl x⟩);rw[List.replicate_zero,List.append_nil];refine aG QW (by simp[Pg]) ?_;conv=>whnf
 refine hx.to (by rw[hlen,hlen]) (by rw[hlen];exact hargs 9 (Nat.le_refl 9)) (by rw[hlen];exact A.low _) (.int _ _) (by rw[hlen];exact A.low _) [] (List.append_nil _).symm ?_;conv=>whnf
 exact⟨_,rfl,rfl⟩
end Go.Ag
/- Package sub: the judge. -/
namespace Go.Ag
open Go
variable {T : Tab} {L : Lnk}
def TrS.push (S:TrS) (p:Bytes×Bytes):TrS:=match S.ver with
 |0=>⟨1,[p],1⟩
 |v+1=>⟨v+2,S.xs.take S.len ++[p],S.len+1⟩
def TrS.cut (S:TrS) (m:Nat):TrS:=⟨S.ver,S.xs,m⟩
theorem TrS.BU {S:TrS} (h:S.ok) (p:Bytes×Bytes):(S.push p).ok:=by
 unfold TrS.push;have:=h.1;split
 ·exact⟨Nat.le_refl 1,fun h=>(by cases h)⟩
 ·refine⟨?_,fun h=>(by cases h)⟩
  simp only[List.length_append,List.length_take,List.length_singleton];omega
theorem TrS.Nw {S:TrS} (h:S.ok) {m:Nat} (hm:m≤S.len):(S.cut m).ok:=⟨Nat.le_trans hm h.1,fun e=>by have:=h.2 e;show m=0;omega⟩
section
variable (hd : TA → List TA) (tx : TA → Bytes) (loose : Bool)
def EN (rel:TrS→TA→TA→Option (Bool×TrS)) (S:TrS) (x y:TA):Option (Bool×TrS):=
 iq (fun S p=>if p.1∈x.names then rel S (x.l[l6 x.names p.1]?.getD default) p.2 else some (false,S)) S (y.names.zip y.l)
def Ap (rel:TrS→TA→TA→Option (Bool×TrS)) (S:TrS) (x y:TA):Option (Bool×TrS):=match y.l,x.l with
 |[y0,y1],[x0,x1]=>match rel S y0 x0 with
  |none=>none
  |some (false,S')=>some (false,S')
  |some (true,S')=>rel S' x1 y1
 |_,_=>none
def rM (rel:TrS→TA→TA→Option (Bool×TrS)) (S:TrS) (x y:TA):Option (Bool×TrS):=
 if x.kind=4∨y.kind=4 then some (loose||x.kind==y.kind,S)
 else if x.kind≠y.kind then some (false,S)
 else if x.kind≠5∧x.kind≠6 then some (true,S)
 else if 2^40≤S.len then none
 else if S.cur.contains (tx x,tx y)=true then some (true,S)
 else match(if x.kind=5 then EN rel (S.push (tx x,tx y)) x y else Ap rel (S.push (tx x,tx y)) x y)with
  |none=>none
  |some (true,S')=>some (true,S')
  |some (false,S')=>if S.len≤S'.len then some (false,S'.cut S.len)else none
def qJ :Nat→TrS→TA→TA→Option (Bool×TrS)
 |0,_,_,_=>none
 |n+1,S,a,b=>iq (fun S x=>qD (fun S y=>rM tx loose (qJ n) S x y) S (hd b)) S (hd a)
end
theorem sO {σ α:Type} {st:σ→α→Option (Bool×σ)} {P:σ→Prop}:∀(l:List α),(∀s x b s',x∈l→P s→st s x=some (b,s')→P s')→∀s b s',P s→iq st s l=some (b,s')→P s'
 |[],_,s,b,s',h,e=>by cases e;exact h
 |x::l,hs,s,b,s',h,e=>by
  rw[iq]at e
  cases hq:st s x with
  |none=>rw[hq]at e;cases e
  |some q=>
   obtain⟨c,s2⟩:=q;rw[hq]at e;have h2:=hs s x c s2 (by simp) h hq;cases c
   ·cases e;exact h2
   ·exact sO l (fun s x b s' hx=>hs s x b s' (by simp[hx])) s2 b s' h2 e
theorem EB {σ α:Type} {st:σ→α→Option (Bool×σ)} {P:σ→Prop}:∀(l:List α),(∀s x b s',x∈l→P s→st s x=some (b,s')→P s')→∀s b s',P s→qD st s l=some (b,s')→P s'
 |[],_,s,b,s',h,e=>by cases e;exact h
 |x::l,hs,s,b,s',h,e=>by
  rw[qD]at e
  cases hq:st s x with
  |none=>rw[hq]at e;cases e
  |some q=>
   obtain⟨c,s2⟩:=q;rw[hq]at e;have h2:=hs s x c s2 (by simp) h hq;cases c
   ·exact EB l (fun s x b s' hx=>hs s x b s' (by simp[hx])) s2 b s' h2 e
   ·cases e;exact h2
theorem NW {tx:TA→Bytes} {loose:Bool} {rel:TrS→TA→TA→Option (Bool×TrS)} (hr:∀S a b r S',S.ok→rel S a b=some (r,S')→S'.ok):∀S x y r S',S.ok→rM tx loose rel S x y=some (r,S')→S'.ok:=by
 intro S x y r S' hS h;unfold rM at h;split at h
 ·cases h;exact hS
 split at h
 ·cases h;exact hS
 split at h
 ·cases h;exact hS
 split at h
 ·cases h
 split at h
 ·cases h;exact hS
 have hp:=TrS.BU hS (tx x,tx y)
 have hin:∀r S',(if x.kind=5 then EN rel (S.push (tx x,tx y)) x y else Ap rel (S.push (tx x,tx y)) x y)=some (r,S')→S'.ok:=by
  intro r S' h;split at h
  ·exact sO (P:=TrS.ok) _ (fun s p b s' _ hs he=>by
    split at he
    ·exact hr _ _ _ _ _ hs he
    ·cases he;exact hs) _ _ _ hp h
  ·unfold Ap at h
   split at h
   ·split at h
    ·cases h
    ·rename_i hq
     cases h;exact hr _ _ _ _ _ hp hq
    ·rename_i hq
     exact hr _ _ _ _ _ (hr _ _ _ _ _ hp hq) h
   ·cases h
 split at h
 ·cases h
 ·rename_i hq
  cases h;exact hin _ _ hq
 ·rename_i hq
  split at h
  ·cases h
   rename_i hle;exact TrS.Nw (hin _ _ hq) hle
  ·cases h
theorem Oi {hd:TA→List TA} {tx:TA→Bytes} {loose:Bool}:∀(n:Nat) (S:TrS) (a b:TA) (r:Bool) (S':TrS),S.ok→qJ hd tx loose n S a b=some (r,S')→S'.ok
 |0,_,_,_,_,_,_,h=>by rw[qJ]at h;cases h
 |n+1,S,a,b,r,S',hS,h=>by
  rw[qJ]at h;exact sO (P:=TrS.ok) _ (fun s x b' s' _ hs he=>EB (P:=TrS.ok) _ (fun s2 y b2 s2' _ hs2 he2=>NW (Oi n) s2 x y b2 s2' hs2 he2) _ _ _ hs he) _ _ _ hS h
def kY (e:dL) (loose:Bool) (S:TrS):Heap:=iU e ++[.cells [.ptr 2 0,.bool loose,tval S] 263,tobj S]
theorem mh (e:dL) (loose:Bool) (S:TrS):∀o∈kY e loose S,bI 5 o:=
 eX.at ⟨dY 5 _ _,fA 5 _ _,dH ⟨.map _ (by decide:0<5),.map _ (by decide:1<5),trivial⟩,dH ⟨.ptr _ _ (by decide:2<5),.bool _,qp S,trivial⟩,sI 5 S,trivial⟩
structure JW (T:Tab) (e:dL)where
 G:TA→Prop
 hd:TA→List TA
 tx:TA→Bytes
 heads:∀t,G t→EK T.L 149 [t.av] e (.lst (TA.avs (hd t)) .none)
 hlen:∀t,G t→(hd t).length≤2^40
 text:∀t,G t→∀h∈hd t,Pure T.L 150 [h.av] (.str (tx h))
 sub:∀t,G t→∀h∈hd t,∀x∈h.l,G x
 fn:∀t,G t→∀h∈hd t,h.kind=6→∃a b,h.l=[a,b]
 rcd:∀t,G t→∀h∈hd t,h.kind=5→h.names.length=h.l.length∧h.names.Pairwise (· < ·)∧h.names.length≤2^40
def LK (T:Tab) (e:dL) (loose:Bool) (G:TA→Prop) (rel:TrS→TA→TA→Option (Bool×TrS)):Prop:=
 ∀S a b r S',S.ok→G a→G b→rel S a b=some (r,S')→S'.ok∧bX T.L 202 [.ptr 3 0,a.av,b.av] (kY e loose S) (.bool r) (kY e loose S')
theorem BZ (a b:TA):∀x∈[au.ptr 3 0,a.av,b.av],Low 5 x:=gq.at ⟨.ptr _ _ (by decide),aQ _ _,aQ _ _,trivial⟩
theorem Hy (F:oN T) {e:dL} {loose:Bool} {G:TA→Prop} {rel:TrS→TA→TA→Option (Bool×TrS)} (hR:LK T e loose G rel) (x y:TA) (hx:∀t∈x.l,G t) (hy:∀t∈y.l,G t)
  (hxn:x.names.length=x.l.length∧x.names.Pairwise (· < ·)∧x.names.length≤2^40) (hyn:y.names.length=y.l.length∧y.names.length≤2^40) (S:TrS) (r:Bool) (S':TrS) (hS:S.ok) (h:EN rel S x y=some (r,S')):
  bX T.L 278 [.ptr 3 0,x.av,y.av] (kY e loose S) (.bool r) (kY e loose S'):=by
 refine bX.of 0 rfl (.bool _) (mh e loose S') (aC.mono (Q:=fun r' H'=>∃J,r'=.ret (.bool r)∧H'=kY e loose S' ++J) ?_ fun r H' ⟨J,e1,e2⟩=>⟨_,_,J,e1,Weak.refl _,e2,rfl,fun i x y h1 h2=>by rw[h1]at h2;cases h2;exact bJ.refl x⟩)
 have hxat:∀nm,nm∈x.names→∃t,x.l[l6 x.names nm]?=some t∧x.l[l6 x.names nm]?.getD default=t∧G t:=fun nm hm=>by
  have h1:=(yY hxn.2.1).2 hm;have h2:=(List.getElem?_eq_some_iff.1 h1).1;have h3:l6 x.names nm<x.l.length:=by omega
  exact⟨x.l[l6 x.names nm],List.getElem?_eq_getElem h3,by rw[List.getElem?_eq_getElem h3];rfl,hx _ (List.getElem_mem h3)⟩
 obtain⟨xk,xm,xs,xl⟩:=x;obtain⟨yk,ym,ys,yl⟩:=y;unfold EN at h;simp only[TA.names,TA.l]at h hxat hx hy hxn hyn;have hbs:=fun nm=>IX F.QX F.KJ F.KI F.ER xs nm hxn.2.1 hxn.2.2
 refine aG F.Xf (by simp[Ut]) ?_;conv=>whnf
 intro I hI hG
 have key:∀(d j:Nat) (S1:TrS) (e':Env),ys.length-j=d→j≤ys.length→S1.ok→iq (fun S p=>if p.1∈xs then rel S (xl[l6 xs p.1]?.getD default) p.2 else some (false,S)) S1 ((ys.zip yl).drop j)=some (r,S')→
   I (gB e' [(0,.ptr 3 0),(4,.ptr 5 0),(5,.ptr 6 0),(12,.lst (aO ys) .none),(13,.int .i64 ys.length),(14,.int .i64 j)]) (kY e loose S1 ++[bf (.mk xk xm xs xl),bf (.mk yk ym ys yl)]):=by
  intro d
  induction d with
  |zero=>
   intro j S1 e' hd hj hok hf;have hjl:j=ys.length:=by omega
   rw[List.drop_of_length_le (by rw[List.length_zip];omega),iq]at hf;cases hf;apply hI;conv=>whnf
   rw[bU (by omega)];conv=>whnf
   exact⟨_,rfl,rfl⟩
  |succ d ihd=>
   intro j S1 e' hd hj hok hf;have hjl:j<ys.length:=by omega
   have hjl2:j<yl.length:=by omega
   have hjz:j<(ys.zip yl).length:=by rw[List.length_zip];omega
   rw[List.drop_eq_getElem_cons hjz,iq,List.getElem_zip]at hf
   have hget:(aO ys)[((j:Nat):Int).toNat]?=some (.str ys[j]):=by
    rw[Int.toNat_natCast];simp[aO,List.getElem?_map,List.getElem?_eq_getElem hjl]
   have YC:=mP hjl2;have hGy:=hy _ (List.getElem_mem hjl2);have hnext:=fun S2 e'=>ihd (j+1) S2 e' (by omega) hjl
   generalize ys[j]=nm at hget hf;generalize yl[j]=yt at YC hGy hf;dsimp only at hf
   have hlJ:∀S,eX 7 (kY e loose S ++[bf (.mk xk xm xs xl),bf (.mk yk ym ys yl)]):=fun S=>
    ⟨dY 7 _ _,fA 7 _ _,dH ⟨.map _ (by decide:0<7),.map _ (by decide:1<7),trivial⟩,dH ⟨.ptr _ _ (by decide:2<7),.bool _,(qp S).mono (by decide),trivial⟩,sI 7 S,aI (Nat.zero_le _) (cK _),aI (Nat.zero_le _) (cK _),trivial⟩
   have hj1:j+1<9223372036854775808:=by omega
   apply hI;conv=>whnf
   rw[dz hjl];conv=>whnf
   refine step_elem (Int.natCast_nonneg _) hget rfl ?_;conv=>whnf
   refine(hbs nm).to ?_;conv=>whnf
   by_cases hm:nm∈xs
   ·rw[if_pos hm]at hf
    rw[decide_eq_true hm];obtain⟨xt,k1,k2,k3⟩:=hxat nm hm;rw[k2]at hf
    have YD:(TA.avs xl)[((l6 xs nm:Nat):Int).toNat]?=some xt.av:=by
     obtain⟨h1,h2⟩:=List.getElem?_eq_some_iff.1 k1;rw[←h2];exact mP h1
    generalize l6 xs nm=lo at YD
    cases hq:rel S1 xt yt with
    |none=>rw[hq]at hf;cases hf
    |some q=>
     obtain⟨c,S2⟩:=q;rw[hq]at hf;obtain⟨hok2,hc⟩:=hR _ _ _ _ _ hok k3 hGy hq;have hlr:=BZ xt yt;obtain⟨ak,am,abJ,al⟩:=xt;obtain⟨bk,bm,bs,bl⟩:=yt;conv=>whnf
     refine step_elem (Int.natCast_nonneg _) YD rfl ?_;conv=>whnf
     refine step_elem (Int.natCast_nonneg _) YC rfl ?_;conv=>whnf
     refine hc.to rfl hlr (mh _ _ _) (.bool _) (mh _ _ _) [bf (.mk xk xm xs xl),bf (.mk yk ym ys yl)] rfl ?_;cases c
     ·cases hf
      conv=>whnf
      exact⟨_,rfl,rfl⟩
     ·have hf:iq (fun S p=>if p.1∈xs then rel S (xl[l6 xs p.1]?.getD default) p.2 else some (false,S)) S2 ((ys.zip yl).drop (j+1))=some (r,S'):=hf
      conv=>whnf
      exact hG.keep [(0,.ptr 3 0),(4,.ptr 5 0),(5,.ptr 6 0),(12,.lst (aO ys) .none),(13,.int .i64 ys.length),(14,.int .i64 (j+1:Nat))] (kY e loose S2 ++[bf (.mk xk xm xs xl),bf (.mk yk ym ys yl)]) (Nat.le_refl 7) rfl ⟨rfl,rfl,rfl,rfl,rfl,add1 hj1,trivial⟩
       ⟨.ptr _ _ (by decide:3<7),.ptr _ _ (by decide:5<7),.ptr _ _ (by decide:6<7),dQ _ _ _ trivial,.int _ _,.int _ _,trivial⟩ (hlJ S2) (hnext _ _ hok2 hf)
   ·rw[if_neg hm]at hf
    rw[decide_eq_false hm];cases hf;conv=>whnf
    exact⟨_,rfl,rfl⟩
 exact inv_of [(0,.ptr 3 0),(4,.ptr 5 0),(5,.ptr 6 0),(12,.lst (aO ys) .none),(13,.int .i64 ys.length),(14,.int .i64 0)] ⟨rfl,rfl,rfl,rfl,by show au.int .i64 ((aO ys).length:Nat)=_;rw[fQ],rfl,trivial⟩ (key ys.length 0 S _ rfl (Nat.zero_le _) hS h)
end Go.Ag
/- A type's text tells it. -/
namespace Go.Ag
open Go
def jB (s:Bytes):Prop:=s≠[]∧(∀c∈s,inA c bW=true)∧s≠Iq∧s≠za∧s≠y9
inductive RT :TA→Prop where
 |int:RT (.mk 1 [] [] [])
 |bool:RT (.mk 2 [] [] [])
 |text:RT (.mk 3 [] [] [])
 |dyn:RT (.mk 4 [] [] [])
 |rcd (ns:List Bytes) (l:List TA) (hs:ns.Pairwise (· < ·)) (hl:ns.length=l.length) (hn:∀n∈ns,jB n) (h:∀t∈l,RT t):RT (.mk 5 [] ns l)
 |fn (a b:TA) (ha:RT a) (hb:RT b):RT (.mk 6 [] [] [a,b])
 |uni (l:List TA) (h2:2≤l.length) (h:∀t∈l,RT t) (h7:∀t∈l,t.kind≠7):RT (.mk 7 [] [] l)
 |ref (nm:Bytes) (h:jB nm):RT (.mk 8 nm [] [])
def D2 (r:Bytes):Prop:=∀c z,r=c::z→inA c bW=false
def D1 (r:Bytes):Prop:=D2 r∧∀z,r≠32::45::62::32::z
def D0 (r:Bytes):Prop:=D1 r∧∀z,r≠32::124::32::z
def C2 (a:TA):Prop:=∀b r r',RT b→prT a 2 ++r=prT b 2 ++r'→D2 r→D2 r'→a=b∧r=r'
def C1 (a:TA):Prop:=∀b r r',RT b→prT a 1 ++r=prT b 1 ++r'→D1 r→D1 r'→a=b∧r=r'
def C0 (a:TA):Prop:=∀b r r',RT b→prT a 0 ++r=prT b 0 ++r'→D0 r→D0 r'→a=b∧r=r'
theorem vg (lv:Nat):prT (.mk 1 [] [] []) lv=Iq:=by rw[prT];rfl
theorem qW (lv:Nat):prT (.mk 2 [] [] []) lv=za:=by rw[prT];rfl
theorem qV (lv:Nat):prT (.mk 3 [] [] []) lv=y9:=by rw[prT];rfl
theorem tT (lv:Nat):prT (.mk 4 [] [] []) lv=[63]:=by rw[prT];rfl
theorem xQ (ns:List Bytes) (l:List TA) (lv:Nat):prT (.mk 5 [] ns l) lv=[123] ++iT [44,32] (nJ ns (prL l 0)) ++[125]:=by rw[prT];rfl
theorem FD (a b:TA) (lv:Nat):prT (.mk 6 [] [] [a,b]) lv=MO (prT a 2 ++[32,45,62,32] ++prT b 1) (decide (2≤lv)):=by rw[prT];simp[prL]
theorem zX (l:List TA) (h:l≠[]) (lv:Nat):prT (.mk 7 [] [] l) lv=MO (iT [32,124,32] (prL l 1)) (decide (1≤lv)):=by
 rw[prT];simp only[show¬(7:Int)=1 by decide,show¬(7:Int)=2 by decide,show¬(7:Int)=3 by decide,show¬(7:Int)=4 by decide,show¬(7:Int)=5 by decide,show¬(7:Int)=6 by decide,if_false,if_true];rw[if_neg];intro h0;exact h (List.eq_nil_of_length_eq_zero h0)
theorem u6 (nm:Bytes) (lv:Nat):prT (.mk 8 nm [] []) lv=nm:=by rw[prT];rfl
theorem GN :∀{w w' r r':Bytes},(∀c∈w,inA c bW=true)→(∀c∈w',inA c bW=true)→D2 r→D2 r'→w ++r=w' ++r'→w=w'∧r=r'
 |[],[],r,r',_,_,_,_,e=>⟨rfl,e⟩
 |[],c::w',r,r',_,h',hr,_,e=>by
  have:=hr c (w' ++r') e;rw[h' c (by simp)]at this;cases this
 |c::w,[],r,r',h,_,_,hr',e=>by
  have:=hr' c (w ++r) e.symm;rw[h c (by simp)]at this;cases this
 |c::w,d::w',r,r',h,h',hr,hr',e=>by
  simp only[List.cons_append,List.cons.injEq]at e;obtain⟨rfl,e⟩:=e;obtain⟨e1,e2⟩:=GN (fun x hx=>h x (by simp[hx])) (fun x hx=>h' x (by simp[hx])) hr hr' e;exact⟨by rw[e1],e2⟩
inductive Beg :TA→Prop where
 |word (t:TA) (k:t.kind=1∨t.kind=2∨t.kind=3∨t.kind=8) (hne:prT t 2≠[]) (h:∀c∈prT t 2,inA c bW=true):Beg t
 |dyn:Beg (.mk 4 [] [] [])
 |rcd (ns:List Bytes) (l:List TA) (z:Bytes) (h:prT (.mk 5 [] ns l) 2=123::z):Beg (.mk 5 [] ns l)
 |par (t:TA) (k:t.kind=6∨t.kind=7) (h:prT t 2=40::(prT t 0 ++[41])):Beg t
theorem beg {t:TA} (h:RT t):Beg t:=by
 cases h with
 |int=>exact .word _ (.inl rfl) (by rw[vg];decide) (by rw[vg];decide)
 |bool=>exact .word _ (.inr (.inl rfl)) (by rw[qW];decide) (by rw[qW];decide)
 |text=>exact .word _ (.inr (.inr (.inl rfl))) (by rw[qV];decide) (by rw[qV];decide)
 |dyn=>exact .dyn
 |rcd ns l=>exact .rcd ns l _ (by rw[xQ];rfl)
 |fn a b=>exact .par _ (.inl rfl) (by rw[FD,FD];rfl)
 |uni l h2=>exact .par _ (.inr rfl) (by
   have:l≠[]:=by rintro rfl;simp at h2
   rw[zX _ this,zX _ this];rfl)
 |ref nm h=>exact .word _ (.inr (.inr (.inr rfl))) (by rw[u6];exact h.1) (by rw[u6];exact h.2.1)
theorem kr {w z r:Bytes} (hne:w≠[]) (h:∀c∈w,inA c bW=true) {c:UInt8} (hc:inA c bW=false):w ++r≠c::z:=by
 cases w with
 |nil=>exact absurd rfl hne
 |cons d w=>
  intro e;simp only[List.cons_append,List.cons.injEq]at e;rw[←e.1,h d (by simp)]at hc;cases hc
theorem GI {c:UInt8} {z:Bytes} (h:inA c bW=false):D2 (c::z):=fun d y e=>by cases e;exact h
theorem D1_of {c:UInt8} {z:Bytes} (h:inA c bW=false) (hc:c≠32):D1 (c::z):=⟨GI h,fun y e=>hc (by cases e;rfl)⟩
theorem LU {c:UInt8} {z:Bytes} (h:inA c bW=false) (hc:c≠32):D0 (c::z):=⟨D1_of h hc,fun y e=>hc (by cases e;rfl)⟩
theorem Y7 {t:TA} (h:RT t) (h6:t.kind≠6):prT t 1=prT t 2:=by
 cases h with
 |int=>rw[vg,vg]
 |bool=>rw[qW,qW]
 |text=>rw[qV,qV]
 |dyn=>rw[tT,tT]
 |rcd=>rw[xQ,xQ]
 |fn=>exact absurd rfl h6
 |uni l h2=>
  have:l≠[]:=by rintro rfl;simp at h2
  rw[zX _ this,zX _ this];rfl
 |ref=>rw[u6,u6]
theorem Y8 {t:TA} (h:RT t) (h7:t.kind≠7):prT t 0=prT t 1:=by
 cases h with
 |int=>rw[vg,vg]
 |bool=>rw[qW,qW]
 |text=>rw[qV,qV]
 |dyn=>rw[tT,tT]
 |rcd=>rw[xQ,xQ]
 |fn=>rw[FD,FD];rfl
 |uni=>exact absurd rfl h7
 |ref=>rw[u6,u6]
theorem OL {t:TA} (h:RT t) (h6:t.kind=6):∃a b,t=.mk 6 [] [] [a,b]∧RT a∧RT b:=by
 cases h<;>first|(cases h6;done)|exact⟨_,_,rfl,by assumption,by assumption⟩
theorem Je {t:TA} (h:RT t) (h7:t.kind=7):∃q qs,t=.mk 7 [] [] (q::qs)∧qs≠[]∧(∀x∈q::qs,RT x)∧∀x∈q::qs,x.kind≠7:=by
 cases h with
 |uni l h2 h h7'=>
  match l,h2 with
  |q::p::qs,_=>exact⟨q,p::qs,rfl,by simp,h,h7'⟩
 |_=>cases h7
theorem MF (a b:TA):prT (.mk 6 [] [] [a,b]) 1=prT a 2 ++([32,45,62,32] ++prT b 1):=by rw[FD];show _ ++_ ++_=_;rw[List.append_assoc]
theorem qG {a:TA} (ha:RT a) (h6:a.kind≠6) (h:C2 a):C1 a:=fun b r r' hb e hr hr'=>by
 rw[Y7 ha h6]at e
 by_cases hb6:b.kind=6
 ·obtain⟨b1,b2,rfl,k1,k2⟩:=OL hb hb6
  rw[MF,List.append_assoc]at e;obtain⟨_,e2⟩:=h b1 _ _ k1 e hr.1 (GI (by decide));exact absurd e2 (by rw[List.append_assoc];exact hr.2 _)
 ·rw[Y7 hb hb6]at e
  exact h b r r' hb e hr.1 hr'.1
theorem C1_fn {a1 a2:TA} (h1:C2 a1) (h2:C1 a2):C1 (.mk 6 [] [] [a1,a2]):=fun b r r' hb e hr hr'=>by
 rw[MF,List.append_assoc]at e
 by_cases hb6:b.kind=6
 ·obtain⟨b1,b2,rfl,k1,k2⟩:=OL hb hb6
  rw[MF]at e;simp only[List.append_assoc]at e;have hsp:∀z:Bytes,D2 ([32,45,62,32] ++z):=fun z=>GI (by decide)
  obtain⟨rfl,e2⟩:=h1 b1 _ _ k1 e (hsp _) (hsp _);obtain⟨rfl,e3⟩:=h2 b2 r r' k2 (List.append_cancel_left e2) hr hr';exact⟨rfl,e3⟩
 ·rw[Y7 hb hb6]at e
  obtain⟨_,e2⟩:=h1 b _ _ hb e (GI (by decide)) hr'.1;exact absurd e2.symm (by rw[List.append_assoc];exact hr'.2 _)
def oP (qs:List TA):Bytes:=qs.flatMap fun q=>[32,124,32] ++prT q 1
theorem F6 (q:TA):∀qs:List TA,iT [32,124,32] (prL (q::qs) 1)=prT q 1 ++oP qs
 |[]=>by rw[prL,prL];simp[iT,oP]
 |p::qs=>by
  rw[prL,prL];have:=F6 p qs;rw[prL]at this;show prT q 1 ++[32,124,32] ++iT [32,124,32] (prT p 1::prL qs 1)=_;rw[this];simp[oP,List.append_assoc]
theorem HZ (q:TA) (qs:List TA):prT (.mk 7 [] [] (q::qs)) 0=prT q 1 ++oP qs:=by rw[zX _ (by simp)];exact F6 q qs
theorem wU {qs:List TA} {r:Bytes} (hr:D0 r):D1 (oP qs ++r):=by
 cases qs with
 |nil=>exact hr.1
 |cons q qs=>exact⟨GI (by decide),fun z e=>by simp[oP]at e⟩
theorem qH {a:TA} (ha:RT a) (h7:a.kind≠7) (h:C1 a):C0 a:=fun b r r' hb e hr hr'=>by
 rw[Y8 ha h7]at e
 by_cases hb7:b.kind=7
 ·obtain⟨p,ps,rfl,hne,k1,k2⟩:=Je hb hb7
  rw[HZ,List.append_assoc]at e;obtain⟨_,e2⟩:=h p _ _ (k1 p (by simp)) e hr.1 (wU hr')
  cases ps with
  |nil=>exact absurd rfl hne
  |cons p' ps=>exact absurd e2 (by simp only[oP,List.flatMap_cons,List.append_assoc];exact hr.2 _)
 ·rw[Y8 hb hb7]at e
  exact h b r r' hb e hr.1 hr'.1
theorem N8 :∀{qs ps:List TA} {r r':Bytes},(∀q∈qs,C1 q)→(∀p∈ps,RT p)→D0 r→D0 r'→oP qs ++r=oP ps ++r'→qs=ps∧r=r'
 |[],[],r,r',_,_,_,_,e=>⟨rfl,e⟩
 |[],p::ps,r,r',_,_,hr,_,e=>absurd e (by simp only[oP,List.flatMap_nil,List.nil_append,List.flatMap_cons,List.append_assoc];exact hr.2 _)
 |q::qs,[],r,r',_,_,_,hr',e=>absurd e.symm (by simp only[oP,List.flatMap_nil,List.nil_append,List.flatMap_cons,List.append_assoc];exact hr'.2 _)
 |q::qs,p::ps,r,r',hq,hp,hr,hr',e=>by
  have e1:prT q 1 ++(oP qs ++r)=prT p 1 ++(oP ps ++r'):=by
   simp only[oP,List.flatMap_cons,List.append_assoc]at e;have:=List.append_cancel_left e;simpa only[oP]using this
  obtain⟨rfl,e2⟩:=hq q (by simp) p _ _ (hp p (by simp)) e1 (wU hr) (wU hr');obtain⟨rfl,e3⟩:=N8 (fun x hx=>hq x (by simp[hx])) (fun x hx=>hp x (by simp[hx])) hr hr' e2;exact⟨rfl,e3⟩
theorem ZW {q:TA} {qs:List TA} (hne:qs≠[]) (h:∀x∈q::qs,C1 x):C0 (.mk 7 [] [] (q::qs)):=fun b r r' hb e hr hr'=>by
 rw[HZ,List.append_assoc]at e
 by_cases hb7:b.kind=7
 ·obtain⟨p,ps,rfl,hne',k1,k2⟩:=Je hb hb7
  rw[HZ,List.append_assoc]at e;obtain⟨rfl,e2⟩:=h q (by simp) p _ _ (k1 p (by simp)) e (wU hr) (wU hr');obtain⟨rfl,e3⟩:=N8 (fun x hx=>h x (by simp[hx])) (fun x hx=>k1 x (by simp[hx])) hr hr' e2;exact⟨rfl,e3⟩
 ·rw[Y8 hb hb7]at e
  obtain⟨_,e2⟩:=h q (by simp) b _ _ hb e (wU hr) hr'.1
  cases qs with
  |nil=>exact absurd rfl hne
  |cons q' qs=>exact absurd e2.symm (by simp only[oP,List.flatMap_cons,List.append_assoc];exact hr'.2 _)
theorem LV {a:TA} (ha:RT a) (k:a.kind=6∨a.kind=7) (h:C0 a):C2 a:=fun b r r' hb e hr hr'=>by
 have ea:prT a 2=40::(prT a 0 ++[41]):=by
  cases beg ha with
  |word _ k'=>rcases k with k|k<;>rw[k]at k'<;>simp at k'
  |dyn=>rcases k with k|k<;>cases k
  |rcd=>rcases k with k|k<;>cases k
  |par _ _ h=>exact h
 rw[ea]at e
 have eb:prT b 2=40::(prT b 0 ++[41]):=by
  cases beg hb with
  |word _ k' hne hw=>exact absurd e.symm (kr hne hw (by decide))
  |dyn=>rw[tT]at e;cases e
  |rcd _ _ z h'=>rw[h']at e;cases e
  |par _ _ h=>exact h
 rw[eb]at e;simp only[List.cons_append,List.append_assoc,List.cons.injEq,true_and]at e;obtain⟨e1,e2⟩:=h b _ _ hb e (LU (by decide) (by decide)) (LU (by decide) (by decide));exact⟨e1,by simpa using e2⟩
def p9 :List Bytes→List TA→Bytes
 |n::ns,t::l=>[44,32] ++(n ++([58,32] ++(prT t 0 ++p9 ns l)))
 |_,_=>[125]
theorem vI :∀(n:Bytes) (ns:List Bytes) (t:TA) (l:List TA),iT [44,32] (nJ (n::ns) (prL (t::l) 0)) ++[125]=n ++([58,32] ++(prT t 0 ++p9 ns l))
 |n,[],t,l=>by rw[prL];simp[nJ,iT,p9]
 |n,m::ns,t,[]=>by rw[prL,prL];simp[nJ,iT,p9]
 |n,m::ns,t,u::l=>by
  have:=vI m ns u l;rw[prL,prL];rw[prL]at this;show(n ++[58,32] ++prT t 0) ++[44,32] ++iT [44,32] (nJ (m::ns) (prT u 0::prL l 0)) ++[125]=_;rw[List.append_assoc _ _ [125],this,p9];simp[List.append_assoc]
theorem TP :∀{ns ns':List Bytes} {l l':List TA} {r r':Bytes},ns.length=l.length→ns'.length=l'.length→(∀n∈ns,jB n)→(∀n∈ns',jB n)→(∀t∈l,C0 t)→(∀t∈l',RT t)→p9 ns l ++r=p9 ns' l' ++r'→ns=ns'∧l=l'∧r=r'
 |[],[],[],[],r,r',_,_,_,_,_,_,e=>⟨rfl,rfl,by simpa[p9]using e⟩
 |[],n::ns,[],t::l,r,r',_,_,_,_,_,_,e=>by simp[p9]at e
 |n::ns,[],t::l,[],r,r',_,_,_,_,_,_,e=>by simp[p9]at e
 |n::ns,m::ns',t::l,u::l',r,r',h1,h2,hn,hn',hc,hr,e=>by
  rw[p9,p9]at e;simp only[List.append_assoc]at e;have e1:=List.append_cancel_left e;clear e;have hsp:∀z:Bytes,D2 ([58,32] ++z):=fun z=>GI (by decide)
  obtain⟨rfl,e2⟩:=GN (hn n (by simp)).2.1 (hn' m (by simp)).2.1 (hsp _) (hsp _) e1;clear e1;have e3:=List.append_cancel_left e2
  have hD:∀(ns:List Bytes) (l:List TA) (r:Bytes),D0 (p9 ns l ++r):=fun ns l r=>by
   match ns,l with
   |[],_=>exact LU (by decide) (by decide)
   |_::_,[]=>exact LU (by decide) (by decide)
   |_::_,_::_=>exact LU (by decide) (by decide)
  obtain⟨rfl,e4⟩:=hc t (by simp) u _ _ (hr u (by simp)) e3 (hD _ _ _) (hD _ _ _);obtain⟨rfl,rfl,e5⟩:=TP (by simpa using h1) (by simpa using h2) (fun x hx=>hn x (by simp[hx])) (fun x hx=>hn' x (by simp[hx])) (fun x hx=>hc x (by simp[hx])) (fun x hx=>hr x (by simp[hx])) e4;exact⟨rfl,rfl,e5⟩
theorem ZU {ns:List Bytes} {l:List TA} (hl:ns.length=l.length) (hn:∀n∈ns,jB n) (h:∀t∈l,C0 t):C2 (.mk 5 [] ns l):=fun b r r' hb e hr hr'=>by
 rw[xQ]at e
 cases hb with
 |rcd ns' l' hs' hl' hn' h'=>
  rw[xQ]at e;simp only[List.append_assoc]at e;have e:=List.append_cancel_left e
  match ns,l,ns',l' with
  |[],[],[],[]=>exact⟨rfl,by simpa[nJ,iT]using e⟩
  |[],[],n::ns',t::l'=>
   rw[←List.append_assoc,←List.append_assoc,vI]at e;have:inA 125 bW=false:=by decide
   exact absurd e.symm (by
    simp only[nJ,prL,List.zipWith_nil_left,iT,List.nil_append,List.cons_append,List.append_assoc]
    exact kr (hn' n (by simp)).1 (hn' n (by simp)).2.1 this)
  |n::ns,t::l,[],[]=>
   rw[←List.append_assoc,←List.append_assoc,vI]at e;have:inA 125 bW=false:=by decide
   exact absurd e (by
    simp only[nJ,prL,List.zipWith_nil_left,iT,List.nil_append,List.cons_append,List.append_assoc]
    exact kr (hn n (by simp)).1 (hn n (by simp)).2.1 this)
  |n::ns,t::l,m::ns',u::l'=>
   rw[←List.append_assoc,←List.append_assoc,vI,vI]at e;obtain⟨e1,e2,e3⟩:=TP (ns:=n::ns) (ns':=m::ns') (l:=t::l) (l':=u::l') (r:=r) (r':=r') hl hl' hn hn' h h' (by rw[p9,p9];simp only[List.append_assoc]at e⊢;rw[e]);exact⟨by rw[e1,e2],e3⟩
  |[],_::_,_,_=>cases hl
  |_::_,[],_,_=>cases hl
  |_,_,[],_::_=>cases hl'
  |_,_,_::_,[]=>cases hl'
 |int=>rw[vg]at e;cases e
 |bool=>rw[qW]at e;cases e
 |text=>rw[qV]at e;cases e
 |dyn=>rw[tT]at e;cases e
 |fn a b=>rw[FD]at e;cases e
 |uni l' h2=>
  have:l'≠[]:=by rintro rfl;simp at h2
  rw[zX _ this]at e;cases e
 |ref nm h=>rw[u6]at e;exact absurd e.symm (kr h.1 h.2.1 (by decide))
theorem Co {a:TA} (ha:RT a) (k:a.kind=1∨a.kind=2∨a.kind=3∨a.kind=8):C2 a:=fun b r r' hb e hr hr'=>by
 have hw:prT a 2≠[]∧∀c∈prT a 2,inA c bW=true:=by
  cases beg ha with
  |word _ _ hne h=>exact⟨hne,h⟩
  |dyn=>rcases k with k|k|k|k<;>cases k
  |rcd=>rcases k with k|k|k|k<;>cases k
  |par _ k'=>rcases k' with k'|k'<;>rw[k']at k<;>simp at k
 cases beg hb with
 |word _ k' hne hw'=>
  obtain⟨e1,e2⟩:=GN hw.2 hw' hr hr' e;refine⟨?_,e2⟩
  cases ha<;>(try(rcases k with k|k|k|k<;>cases k;done))<;>cases hb<;>(try(rcases k' with k'|k'|k'|k'<;>cases k';done))<;>
   simp only[vg,qW,qV,u6]at e1<;>(try(exact absurd e1 (by decide)))<;>(try rfl)
  ·rename_i nm h;exact absurd e1.symm h.2.2.1
  ·rename_i nm h;exact absurd e1.symm h.2.2.2.1
  ·rename_i nm h;exact absurd e1.symm h.2.2.2.2
  ·rename_i nm h;exact absurd e1 h.2.2.1
  ·rename_i nm h;exact absurd e1 h.2.2.2.1
  ·rename_i nm h;exact absurd e1 h.2.2.2.2
  ·rw[e1]
 |dyn=>rw[tT]at e;exact absurd e (kr hw.1 hw.2 (by decide))
 |rcd _ _ z h=>rw[h]at e;exact absurd e (kr hw.1 hw.2 (by decide))
 |par _ _ h=>rw[h]at e;exact absurd e (kr hw.1 hw.2 (by decide))
theorem ZV :C2 (.mk 4 [] [] []):=fun b r r' hb e hr hr'=>by
 rw[tT]at e
 cases beg hb with
 |word _ _ hne h=>exact absurd e.symm (kr hne h (by decide))
 |dyn=>rw[tT]at e;exact⟨rfl,by simpa using e⟩
 |rcd _ _ z h=>rw[h]at e;cases e
 |par _ _ h=>rw[h]at e;cases e
theorem reads {a:TA} (h:RT a):C2 a∧C1 a∧C0 a:=by
 induction h with
 |int=>have h:=RT.int;have c2:=Co h (.inl rfl);have c1:=qG h (by decide) c2;exact⟨c2,c1,qH h (by decide) c1⟩
 |bool=>have h:=RT.bool;have c2:=Co h (.inr (.inl rfl));have c1:=qG h (by decide) c2;exact⟨c2,c1,qH h (by decide) c1⟩
 |text=>have h:=RT.text;have c2:=Co h (.inr (.inr (.inl rfl)));have c1:=qG h (by decide) c2;exact⟨c2,c1,qH h (by decide) c1⟩
 |dyn=>have h:=RT.dyn;have c2:=ZV;have c1:=qG h (by decide) c2;exact⟨c2,c1,qH h (by decide) c1⟩
 |ref nm hn=>have h:=RT.ref nm hn;have c2:=Co h (.inr (.inr (.inr rfl)));have c1:=qG h (by simp[TA.kind]) c2;exact⟨c2,c1,qH h (by simp[TA.kind]) c1⟩
 |rcd ns l hs hl hn hr ih=>
  have h:=RT.rcd ns l hs hl hn hr;have c2:=ZU hl hn fun t ht=>(ih t ht).2.2
  have c1:=qG h (by simp[TA.kind]) c2;exact⟨c2,c1,qH h (by simp[TA.kind]) c1⟩
 |fn a b ha hb iha ihb=>
  have h:=RT.fn a b ha hb;have c1:=C1_fn iha.1 ihb.2.1;have c0:=qH h (by simp[TA.kind]) c1;exact⟨LV h (.inl rfl) c0,c1,c0⟩
 |uni l h2 hr h7 ih=>
  have h:=RT.uni l h2 hr h7
  match l,h2 with
  |q::p::qs,_=>
   have c0:=ZW (q:=q) (qs:=p::qs) (by simp) fun x hx=>(ih x hx).2.1
   have c2:=LV h (.inr rfl) c0;exact⟨c2,qG h (by simp[TA.kind]) c2,c0⟩
theorem Wp {a b:TA} (ha:RT a) (hb:RT b) (e:prT a 0=prT b 0):a=b:=by
 have hD:D0 []:=⟨⟨fun c z e=>(by cases e),fun z e=>(by cases e)⟩,fun z e=>(by cases e)⟩;exact((reads ha).2.2 b [] [] hb (by rw[List.append_nil,List.append_nil];exact e) hD hD).1
end Go.Ag
/- Good types, and what is made normal of them. -/
namespace Go.Ag
open Go
inductive GT :TA→Prop where
 |int:GT (.mk 1 [] [] [])
 |bool:GT (.mk 2 [] [] [])
 |text:GT (.mk 3 [] [] [])
 |dyn:GT (.mk 4 [] [] [])
 |rcd (ns:List Bytes) (l:List TA) (hs:ns.Pairwise (· < ·)) (hl:ns.length=l.length) (hn:∀n∈ns,jB n) (h:∀t∈l,GT t):GT (.mk 5 [] ns l)
 |fn (a b:TA) (ha:GT a) (hb:GT b):GT (.mk 6 [] [] [a,b])
 |uni (l:List TA) (h0:l≠[]) (h:∀t∈l,GT t):GT (.mk 7 [] [] l)
 |ref (nm:Bytes) (h:jB nm):GT (.mk 8 nm [] [])
inductive NT :TA→Prop where
 |int:NT (.mk 1 [] [] [])
 |bool:NT (.mk 2 [] [] [])
 |text:NT (.mk 3 [] [] [])
 |dyn:NT (.mk 4 [] [] [])
 |rcd (ns:List Bytes) (l:List TA) (hs:ns.Pairwise (· < ·)) (hl:ns.length=l.length) (hn:∀n∈ns,jB n) (h:∀t∈l,NT t):NT (.mk 5 [] ns l)
 |fn (a b:TA) (ha:NT a) (hb:NT b):NT (.mk 6 [] [] [a,b])
 |uni (l:List TA) (h2:2≤l.length) (h:∀t∈l,NT t) (h7:∀t∈l,t.kind≠7∧t.kind≠4) (hs:l.Pairwise fun a b=>prT a 0<prT b 0):NT (.mk 7 [] [] l)
 |ref (nm:Bytes) (h:jB nm):NT (.mk 8 nm [] [])
theorem NT.rt {t:TA} (h:NT t):RT t:=by
 induction h with
 |int=>exact .int
 |bool=>exact .bool
 |text=>exact .text
 |dyn=>exact .dyn
 |rcd ns l hs hl hn h ih=>exact .rcd ns l hs hl hn ih
 |fn a b ha hb iha ihb=>exact .fn a b iha ihb
 |uni l h2 h h7 hs ih=>exact .uni l h2 ih fun t ht=>(h7 t ht).1
 |ref nm h=>exact .ref nm h
theorem NT.gt {t:TA} (h:NT t):GT t:=by
 induction h with
 |int=>exact .int
 |bool=>exact .bool
 |text=>exact .text
 |dyn=>exact .dyn
 |rcd ns l hs hl hn h ih=>exact .rcd ns l hs hl hn ih
 |fn a b ha hb iha ihb=>exact .fn a b iha ihb
 |uni l h2 h h7 hs ih=>exact .uni l (by rintro rfl;simp at h2) ih
 |ref nm h=>exact .ref nm h
theorem NT.inj {a b:TA} (ha:NT a) (hb:NT b) (e:prT a 0=prT b 0):a=b:=Wp ha.rt hb.rt e
theorem NT.parts {t:TA} (h:NT t):∀x∈t.l,NT x:=by
 cases h with
 |rcd ns l hs hl hn h=>exact h
 |fn a b ha hb=>
  intro x hx;simp only[TA.l,List.mem_cons,List.not_mem_nil,or_false]at hx;rcases hx with rfl|rfl
  ·exact ha
  ·exact hb
 |uni l h2 h h7 hs=>exact h
 |_=>intro x hx;cases hx
theorem NT.wf {t:TA} (h:NT t):wfT t:=by
 have hL:∀{l:List TA},(∀t∈l,wfT t)→wfL l:=fun{l} hl=>by
  induction l with
  |nil=>trivial
  |cons x l ih=>exact⟨hl x (by simp),ih fun t ht=>hl t (by simp[ht])⟩
 induction h with
 |rcd ns l hs hl hn h ih=>exact⟨fun _=>by omega,fun h=>(by cases h),hL ih⟩
 |fn a b ha hb iha ihb=>exact⟨fun h=>(by cases h),fun _=>Nat.le_refl 2,iha,ihb,trivial⟩
 |uni l h2 h h7 hs ih=>exact⟨fun h=>(by cases h),fun h=>(by cases h),hL ih⟩
 |_=>exact⟨fun h=>(by cases h),fun h=>(by cases h),trivial⟩
theorem NT.Nr {t:TA} (h:NT t) (h4:t.kind=4):t=jP:=by cases h<;>first|(cases h4;done)|rfl
theorem zq {α:Type}:∀(l:List (α×Bytes)) (p:Bytes),l.Pairwise (fun a b=>a.2≤b.2)→(∀y∈l,p≤y.2)→(kM p l).Pairwise (fun a b=>a.2<b.2)∧∀y∈kM p l,p<y.2∧y∈l
 |[],p,_,_=>⟨by simp[kM],fun y hy=>by simp[kM]at hy⟩
 |x::l,p,hs,hp=>by
  obtain⟨h1,h2⟩:=List.pairwise_cons.1 hs;obtain⟨k1,k2⟩:=zq l x.2 h2 h1;rw[kM];split
  ·rename_i he
   have he:x.2=p:=by simpa using he
   exact⟨k1,fun y hy=>⟨by rw[←he];exact(k2 y hy).1,by simp[(k2 y hy).2]⟩⟩
  ·rename_i he
   have he:x.2≠p:=by simpa using he
   have hlt:p<x.2:=by
    have:=hp x (by simp)
    by_cases h:p<x.2
    ·exact h
    ·exact absurd (List.le_antisymm (List.not_lt.1 h) this) he
   refine⟨List.pairwise_cons.2 ⟨fun y hy=>(k2 y hy).1,k1⟩,fun y hy=>?_⟩;rcases List.mem_cons.1 hy with rfl|hy
   ·exact⟨hlt,by simp⟩
   ·exact⟨List.lt_trans hlt (k2 y hy).1,by simp[(k2 y hy).2]⟩
theorem Bz {α:Type} {l:List (α×Bytes)} (hs:l.Pairwise fun a b=>a.2≤b.2):(fZ l).Pairwise (fun a b=>a.2<b.2)∧∀y∈fZ l,y∈l:=by
 cases l with
 |nil=>exact⟨by simp[fZ],fun y hy=>by simp[fZ]at hy⟩
 |cons x l=>
  obtain⟨h1,h2⟩:=List.pairwise_cons.1 hs;obtain⟨k1,k2⟩:=zq l x.2 h2 h1
  exact⟨List.pairwise_cons.2 ⟨fun y hy=>(k2 y hy).1,k1⟩,fun y hy=>by
   rcases List.mem_cons.1 hy with rfl|hy
   ·simp
   ·simp[(k2 y hy).2]⟩
theorem Gn {α:Type}:∀(l:List (α×Bytes)) (p:Bytes),∀y∈l,y.2=p∨∃z∈kM p l,z.2=y.2
 |x::l,p,y,hy=>by
  rw[kM];have ih:=Gn l x.2;split
  ·rename_i he
   have he:x.2=p:=by simpa using he
   rcases List.mem_cons.1 hy with rfl|hy
   ·exact .inl he
   ·rcases ih y hy with h|h
    ·exact .inl (h.trans he)
    ·exact .inr h
  ·rcases List.mem_cons.1 hy with rfl|hy
   ·exact .inr ⟨y,by simp,rfl⟩
   ·rcases ih y hy with h|⟨z,hz,h⟩
    ·exact .inr ⟨x,by simp,h.symm⟩
    ·exact .inr ⟨z,by simp[hz],h⟩
theorem Uh {α:Type} {l:List (α×Bytes)}:∀y∈l,∃z∈fZ l,z.2=y.2:=fun y hy=>by
 cases l with
 |nil=>cases hy
 |cons x l=>
  rcases List.mem_cons.1 hy with rfl|hy
  ·exact⟨y,by simp[fZ],rfl⟩
  ·rcases Gn l x.2 y hy with h|⟨z,hz,h⟩
   ·exact⟨x,by simp[fZ],h.symm⟩
   ·exact⟨z,by simp[fZ,hz],h⟩
def iE (l:List TA):List TA:=(fZ (l9 (d9 l))).map (·.1)
theorem Cg {l:List TA}:∀p∈fZ (l9 (d9 l)),p.2=prT p.1 0∧p.1∈l:=fun p hp=>by
 have h1:=(Bz (tJ (d9 l))).2 p hp;have h2:=(lX (d9 l)).mem_iff.1 h1;obtain⟨t,ht,rfl⟩:=List.mem_map.1 h2;exact⟨rfl,ht⟩
theorem xB (l:List TA):(iE l).Pairwise fun a b=>prT a 0<prT b 0:=by
 unfold iE;rw[List.pairwise_map];refine(Bz (tJ (d9 l))).1.imp_of_mem fun{a b} ha hb h=>?_
 rw[←(Cg a ha).1,←(Cg b hb).1];exact h
theorem nG {l:List TA} {t:TA} (h:t∈iE l):t∈l:=by
 obtain⟨p,hp,rfl⟩:=List.mem_map.1 h;exact(Cg p hp).2
theorem Dj {l:List TA} {t:TA} (h:t∈l):∃u∈iE l,prT u 0=prT t 0:=by
 obtain⟨z,hz,e⟩:=Uh (l:=l9 (d9 l)) (t,prT t 0) ((lX (d9 l)).mem_iff.2 (List.mem_map.2 ⟨t,h,rfl⟩));exact⟨z.1,List.mem_map.2 ⟨z,hz,rfl⟩,by rw[←(Cg z hz).1];exact e⟩
theorem zY {l:List TA} (h:l≠[]):iE l≠[]:=by
 cases l with
 |nil=>exact absurd rfl h
 |cons t l=>
  obtain⟨u,hu,_⟩:=Dj (l:=t::l) (t:=t) (by simp);intro e;rw[e]at hu;cases hu
theorem Di {l:List TA} (hl:∀t∈l,NT t) {t:TA}:t∈iE l↔t∈l:=by
 refine⟨nG,fun h=>?_⟩;obtain⟨u,hu,e⟩:=Dj h;have:=(hl u (nG hu)).inj (hl t h) e;rw[←this];exact hu
def pY :List TA→TA
 |[t]=>t
 |l=>.mk 7 [] [] l
theorem pG (l:List TA):mO l=match(aR l).find? (fun t=>t.kind==4)with
  |some t=>t
  |none=>pY (iE (aR l)):=by
 unfold mO;split
 ·rename_i t h;rw[h]
 ·rename_i h
  rw[h];unfold iE
  match fZ (l9 (d9 (aR l)))with
  |[]=>rfl
  |[p]=>rfl
  |p::q::r=>rfl
theorem sS {l:List TA} {x:TA}:x∈aR l↔∃t∈l,x∈fq t:=by unfold aR;rw[List.mem_flatMap]
theorem FH {t:TA} (h:NT t):(∀x∈fq t,NT x∧x.kind≠7)∧fq t≠[]:=by
 unfold fq;split
 ·rename_i h7
  cases h with
  |uni l h2 h h7' hs=>exact⟨fun x hx=>⟨h x hx,(h7' x hx).1⟩,by rintro e;simp only[TA.l]at e;subst e;simp at h2⟩
  |_=>cases h7
 ·rename_i h7
  exact⟨fun x hx=>by rw[List.mem_singleton]at hx;subst hx;exact⟨h,h7⟩,by simp⟩
theorem vL {l:List TA} (h:∀t∈l,NT t):∀x∈aR l,NT x∧x.kind≠7:=fun x hx=>by
 obtain⟨t,ht,hx⟩:=sS.1 hx;exact(FH (h t ht)).1 x hx
theorem KS {l:List TA} (h:∀t∈l,NT t) (h0:l≠[]):aR l≠[]:=by
 cases l with
 |nil=>exact absurd rfl h0
 |cons t l=>
  have:=(FH (h t (by simp))).2
  cases hp:fq t with
  |nil=>exact absurd hp this
  |cons x xs=>
   intro e;have:x∈aR (t::l):=sS.2 ⟨t,by simp,by rw[hp];simp⟩;rw[e]at this;cases this
theorem PS {l:List TA} (h0:l≠[]) (h:∀t∈l,NT t∧t.kind≠7∧t.kind≠4) (hs:l.Pairwise fun a b=>prT a 0<prT b 0):NT (pY l):=by
 match l,h0 with
 |[t],_=>exact(h t (by simp)).1
 |t::u::l,_=>exact .uni _ (by simp) (fun x hx=>(h x hx).1) (fun x hx=>(h x hx).2) hs
theorem PO {l:List TA} (h:∀t∈l,NT t) (h0:l≠[]):NT (mO l):=by
 rw[pG];have hf:=vL h
 cases hd:(aR l).find? (fun t=>t.kind==4)with
 |some t=>exact(hf t (List.mem_of_find?_eq_some hd)).1
 |none=>
  refine PS (zY (KS h h0)) (fun t ht=>?_) (xB _);have hm:=nG ht;exact⟨(hf t hm).1,(hf t hm).2,by have:=List.find?_eq_none.1 hd t hm;simpa using this⟩
theorem kJ {t:TA} (h:GT t):NT (aN t):=by
 induction h with
 |int=>rw[aN,if_neg (by decide),dM];exact .int
 |bool=>rw[aN,if_neg (by decide),dM];exact .bool
 |text=>rw[aN,if_neg (by decide),dM];exact .text
 |dyn=>rw[aN,if_neg (by decide),dM];exact .dyn
 |ref nm hn=>rw[aN,if_neg (by decide),dM];exact .ref nm hn
 |rcd ns l hs hl hn h ih=>
  rw[aN,if_neg (by decide),dP];refine .rcd ns _ hs (by rw[List.length_map];exact hl) hn fun x hx=>?_
  obtain⟨t,ht,rfl⟩:=List.mem_map.1 hx;exact ih t ht
 |fn a b ha hb iha ihb=>rw[aN,if_neg (by decide),dP];exact .fn _ _ iha ihb
 |uni l h0 h ih=>
  rw[aN,if_pos rfl,dP];refine PO (fun x hx=>?_) (by simpa using h0);obtain⟨t,ht,rfl⟩:=List.mem_map.1 hx;exact ih t ht
theorem BN {l:List TA} (hs:l.Pairwise fun a b=>prT a 0<prT b 0):fZ (l9 (d9 l))=d9 l:=by
 have h1:l9 (d9 l)=d9 l:=by
  have hsl:(d9 l).Pairwise fun a b=>a.2≤b.2:=by
   unfold d9;rw[List.pairwise_map];exact hs.imp fun h=>List.le_of_lt h
  exact(yH (List.Perm.refl _) hsl fun a ha b hb e=>by
   obtain⟨t,ht,rfl⟩:=List.mem_map.1 ha;obtain⟨u,hu,rfl⟩:=List.mem_map.1 hb;obtain⟨i,hi,rfl⟩:=List.getElem_of_mem ht;obtain⟨j,hj,rfl⟩:=List.getElem_of_mem hu;have hp:=List.pairwise_iff_getElem.1 hs;rcases Nat.lt_trichotomy i j with h|h|h
   ·have:=hp i j hi hj h
    dsimp only at e;rw[e]at this;exact absurd this (List.lt_irrefl _)
   ·subst h;rfl
   ·have:=hp j i hj hi h
    dsimp only at e
    rw[e]at this;exact absurd this (List.lt_irrefl _)).symm
 rw[h1]
 have key:∀(l:List TA) (p:Bytes),(∀t∈l,p<prT t 0)→l.Pairwise (fun a b=>prT a 0<prT b 0)→kM p (d9 l)=d9 l:=by
  intro l
  induction l with
  |nil=>intro p _ _;simp[d9,kM]
  |cons t l ih=>
   intro p hp hs;obtain⟨k1,k2⟩:=List.pairwise_cons.1 hs;have h2:=ih (prT t 0) k1 k2;unfold d9 at h2⊢;rw[List.map_cons,kM,if_neg,h2];have:=hp t (by simp);simp only[beq_iff_eq]
   rintro e
   rw[e]at this;exact List.lt_irrefl _ this
 cases l with
 |nil=>simp[d9,fZ]
 |cons t l=>
  obtain⟨k1,k2⟩:=List.pairwise_cons.1 hs;have:=key l (prT t 0) k1 k2;unfold d9 at this⊢;rw[List.map_cons,fZ,this]
theorem D9 {l:List TA} (h:∀t∈l,t.kind≠7):aR l=l:=by
 induction l with
 |nil=>rfl
 |cons t l ih=>
  have:=ih fun x hx=>h x (by simp[hx])
  unfold aR at this⊢;rw[List.flatMap_cons,this];unfold fq;rw[if_neg (h t (by simp))];rfl
theorem iF {t:TA} (h:NT t):aN t=t:=by
 induction h with
 |int=>rw[aN,if_neg (by decide),dM]
 |bool=>rw[aN,if_neg (by decide),dM]
 |text=>rw[aN,if_neg (by decide),dM]
 |dyn=>rw[aN,if_neg (by decide),dM]
 |ref nm hn=>rw[aN,if_neg (by decide),dM]
 |rcd ns l hs hl hn h ih=>
  rw[aN,if_neg (by decide),dP]
  congr 1
  exact(List.map_congr_left (g:=id) ih).trans (List.map_id l)
 |fn a b ha hb iha ihb=>rw[aN,if_neg (by decide),dP];simp[iha,ihb]
 |uni l h2 h h7 hs ih=>
  have e1:l.map aN=l:=(List.map_congr_left (g:=id) ih).trans (List.map_id l);rw[aN,if_pos rfl,dP,e1,pG,D9 fun t ht=>(h7 t ht).1];have e2:l.find? (fun t=>t.kind==4)=none:=List.find?_eq_none.2 fun t ht=>by have:=(h7 t ht).2;simpa using this
  rw[e2]
  have e3:iE l=l:=by
   unfold iE;rw[BN hs];unfold d9;rw[List.map_map];exact(List.map_congr_left (g:=id) fun x _=>rfl).trans (List.map_id l)
  dsimp only;rw[e3]
  match l,h2 with
  |t::u::l,_=>rfl
end Go.Ag
/- How much good types are; that they can be made normal. -/
namespace Go.Ag
open Go
theorem tu (l:List TA):wtL l=(l.map fun t=>wtT t+8).sum:=by
 induction l with
 |nil=>rfl
 |cons t l ih=>rw[wtL,List.map_cons,List.sum_cons,ih]
theorem xK (l m:List TA):wtL (l ++m)=wtL l+wtL m:=by simp[tu]
theorem BK (t:TA):wtL t.l+16≤wtT t:=by obtain⟨k,nm,ns,l⟩:=t;rw[wtT];simp only[TA.l];omega
theorem Cw (t:TA):wtL (fq t)≤wtT t+8:=by
 unfold fq;have:=BK t;split
 ·omega
 ·rw[wtL,wtL];omega
theorem NU (l:List TA):wtL (aR l)≤wtL l:=by
 induction l with
 |nil=>exact Nat.le_refl _
 |cons t l ih=>
  have h1:aR (t::l)=fq t ++aR l:=by unfold aR;rw[List.flatMap_cons]
  rw[h1,xK,wtL];have:=Cw t;omega
theorem Gm {α:Type}:∀(l:List (α×Bytes)) (p:Bytes),(kM p l).Sublist l
 |[],p=>by simp[kM]
 |x::l,p=>by
  rw[kM];have:=Gm l x.2;split
  ·exact this.cons _
  ·exact this.cons_cons _
theorem Ej {α:Type} (l:List (α×Bytes)):(fZ l).Sublist l:=by
 cases l with
 |nil=>simp[fZ]
 |cons x l=>exact(Gm l x.2).cons_cons _
theorem AQ {α:Type} (f:α→Nat) {l m:List α} (h:l.Sublist m):(l.map f).sum≤(m.map f).sum:=by
 induction h with
 |slnil=>exact Nat.le_refl _
 |cons x h ih=>rw[List.map_cons,List.sum_cons];omega
 |cons_cons x h ih=>rw[List.map_cons,List.map_cons,List.sum_cons,List.sum_cons];omega
theorem PI (l:List TA):wtL (iE l)≤wtL l:=by
 unfold iE;rw[tu,List.map_map];have h1:=AQ (fun p:TA×Bytes=>wtT p.1+8) (Ej (l9 (d9 l)));have h2:=((lX (d9 l)).map fun p:TA×Bytes=>wtT p.1+8).sum_nat
 have h3:((d9 l).map fun p:TA×Bytes=>wtT p.1+8).sum=wtL l:=by
  unfold d9;rw[List.map_map,tu];rfl
 have h4:((fZ (l9 (d9 l))).map ((fun t=>wtT t+8)∘fun x=>x.1)).sum=((fZ (l9 (d9 l))).map fun p:TA×Bytes=>wtT p.1+8).sum:=rfl;omega
theorem PG (l:List TA):wtT (mO l)≤16+wtL l:=by
 rw[pG];have hf:=NU l;split
 ·rename_i t h
  have:=iP (List.mem_of_find?_eq_some h);omega
 ·have hp:=PI (aR l)
  generalize iE (aR l)=m at hp
  match m with
  |[]=>simp only[pY];rw[wtT];simp[wtL]
  |[t]=>simp only[pY];rw[wtL,wtL]at hp;omega
  |t::u::m=>simp only[pY];rw[wtT];simp only[List.length_nil,List.map_nil,List.sum_nil];omega
theorem NS :∀(n:Nat) (t:TA),wtT t≤n→wtT (aN t)≤wtT t
 |0,t,h=>by have:=BK t;omega
 |n+1,t,h=>by
  have ih:=NS n;obtain⟨k,nm,ns,l⟩:=t;rw[wtT]at h
  have hl:wtL (dM l)≤wtL l:=by
   have hm:∀t∈l,wtT t≤n:=fun t ht=>by have:=iP ht;omega
   clear h
   induction l with
   |nil=>rw[dM];exact Nat.le_refl _
   |cons t l ihl=>
    rw[dM,wtL,wtL];have h1:=ih t (hm t (by simp));have h2:=ihl fun x hx=>hm x (by simp[hx])
    omega
  rw[aN];split
  ·have:=PG (dM l)
   rw[wtT];omega
  ·rw[wtT,wtT];omega
theorem lI (t:TA):wtT (aN t)≤wtT t:=NS _ t (Nat.le_refl _)
theorem RN (l:List TA):wtL (dM l)≤wtL l:=by
 induction l with
 |nil=>rw[dM];exact Nat.le_refl _
 |cons t l ih=>rw[dM,wtL,wtL];have:=lI t;omega
theorem Yx (ns:List Bytes):ns.length≤(ns.map fun n=>n.length+4).sum:=by
 induction ns with
 |nil=>exact Nat.le_refl _
 |cons n ns ih=>rw[List.map_cons,List.sum_cons,List.length_cons];omega
theorem JX {l:List TA} (h:∀t∈l,NT t) (hl:l.length≤2^30) (hp:∀t∈l,wtT t≤2^30) (ha:(aR l).length≤2^30):I6 l:=by
 have hm:∀t∈aR l,∃u∈l,wtT t≤wtT u+8:=fun t ht=>by
  obtain⟨u,hu,hx⟩:=sS.1 ht;have h1:=iP hx;have h2:=Cw u;exact⟨u,hu,by omega⟩
 refine⟨hl,fun t ht=>?_,ha,fun t ht=>?_,fun t ht=>(vL h t ht).1.wf,fun a ha b hb e=>(vL h a ha).1.inj (vL h b hb).1 e⟩
 ·have h1:=hp t ht
  have h2:=BK t;have h3:=q9 t.l;omega
 ·obtain⟨u,hu,h1⟩:=hm t ht
  have:=hp u hu;omega
theorem H8 {t:TA} (h:GT t):wtT t≤2^30→okN t:=by
 have hL:∀{l:List TA},(∀t∈l,okN t)→Qo l:=fun{l} hl=>by
  induction l with
  |nil=>trivial
  |cons x l ih=>exact⟨hl x (by simp),ih fun t ht=>hl t (by simp[ht])⟩
 have hlt:∀{l:List TA} {t:TA} {n:Nat},t∈l→wtL l≤n→wtT t≤n:=fun ht hn=>by have:=iP ht;omega
 induction h with
 |int=>intro _;exact⟨by simp,by simp,trivial,fun h=>by cases h⟩
 |bool=>intro _;exact⟨by simp,by simp,trivial,fun h=>by cases h⟩
 |text=>intro _;exact⟨by simp,by simp,trivial,fun h=>by cases h⟩
 |dyn=>intro _;exact⟨by simp,by simp,trivial,fun h=>by cases h⟩
 |ref nm hn=>intro _;exact⟨by simp,by simp,trivial,fun h=>by cases h⟩
 |rcd ns l hs hl hn h ih=>
  intro hw;rw[wtT]at hw;have h1:=q9 l;have h2:=Yx ns;exact⟨by omega,by omega,hL fun t ht=>ih t ht (hlt ht (by omega)),fun h=>by cases h⟩
 |fn a b ha hb iha ihb=>
  intro hw;rw[wtT,wtL,wtL,wtL]at hw;exact⟨by simp,by simp,⟨iha (by omega),ihb (by omega),trivial⟩,fun h=>by cases h⟩
 |uni l h0 h ih=>
  intro hw;rw[wtT]at hw;have h1:=q9 l;have h3:=RN l;have h4:=NU (dM l);have h5:=q9 (aR (dM l));refine⟨by omega,by simp,hL fun t ht=>ih t ht (hlt ht (by omega)),fun _=>JX (fun t ht=>?_) (by rw[dP,List.length_map];omega) (fun t ht=>hlt ht (by omega)) (by omega)⟩;rw[dP]at ht;obtain⟨u,hu,rfl⟩:=List.mem_map.1 ht;exact kJ (h u hu)
theorem Sw {l:List TA} (h:∀t∈l,NT t) (hl:l.length≤2^30) (hw:∀t∈l,wtT t≤2^30) (ha:(aR l).length≤2^30):okN (.mk 7 [] [] l):=by
 have hL:∀{l:List TA},(∀t∈l,okN t)→Qo l:=fun{l} hl=>by
  induction l with
  |nil=>trivial
  |cons x l ih=>exact⟨hl x (by simp),ih fun t ht=>hl t (by simp[ht])⟩
 have e1:dM l=l:=by rw[dP];exact(List.map_congr_left (g:=id) fun t ht=>iF (h t ht)).trans (List.map_id l)
 exact⟨hl,by simp,hL fun t ht=>H8 (h t ht).gt (hw t ht),fun _=>by rw[e1];exact JX h hl hw ha⟩
theorem M7 {l:List TA} (h:∀t∈l,NT t∧t.kind≠7) (h0:l≠[]):
  xE l=(match l.find? (fun t=>t.kind==4)with
   |some t=>t
   |none=>pY (iE l)):=by
 unfold xE;have e1:dM l=l:=by rw[dP];exact(List.map_congr_left (g:=id) fun t ht=>iF (h t ht).1).trans (List.map_id l)
 rw[aN,if_pos rfl,e1,pG,D9 fun t ht=>(h t ht).2]
 try rfl
def rz (l:List TA):List TA:=if l.any (fun t=>t.kind==4)then[jP]else iE l
theorem Ng {l:List TA} (h:∀t∈l,NT t∧t.kind≠7) (h0:l≠[]):Iy (xE l)=rz l:=by
 have hj:=M7 h h0;unfold rz
 cases hd:l.find? (fun t=>t.kind==4)with
 |some t=>
  rw[hd]at hj;have h4:t.kind=4:=by simpa using List.find?_some (p:=fun t:TA=>t.kind==4) hd
  have hm:=List.mem_of_find?_eq_some hd;have:=(h t hm).1.Nr h4;subst this;rw[if_pos (List.any_eq_true.2 ⟨jP,hm,rfl⟩),hj];rfl
 |none=>
  rw[hd]at hj;have hj:xE l=pY (iE l):=hj
  have hn:l.any (fun t=>t.kind==4)=false:=by
   rw[List.any_eq_false];exact List.find?_eq_none.1 hd
  rw[hn,if_neg (by simp),hj];have hmem:∀t∈iE l,t.kind≠7:=fun t ht=>(h t (nG ht)).2
  have hne:=zY h0;generalize iE l=m at hmem hne;unfold Iy
  match m,hne with
  |[t],_=>exact if_neg (hmem t (by simp))
  |t::u::m,_=>rfl
theorem Ky {l:List TA} {t:TA} (h:t∈rz l):t=jP∨t∈l:=by
 unfold rz at h;split at h
 ·rw[List.mem_singleton]at h;exact .inl h
 ·exact .inr (nG h)
end Go.Ag
/- The judge's answer, in plain Lean: it holds just if some sound relation holds. -/
namespace Go.Ag
open Go
section
variable (G : TA → Prop) (hd : TA → List TA) (tx : TA → Bytes) (loose : Bool)
def iM (R:TA→TA→Prop) (x y:TA):Prop:=
 if x.kind=5 then∀p∈y.names.zip y.l,p.1∈x.names∧R (x.l[l6 x.names p.1]?.getD default) p.2
 else∃x0 x1 y0 y1,x.l=[x0,x1]∧y.l=[y0,y1]∧R y0 x0∧R x1 y1
def BP (B:TA→TA→Prop) (x y:TA):Prop:=
 ((x.kind=4∨y.kind=4)∧(loose||x.kind==y.kind)=true)∨(¬(x.kind=4∨y.kind=4)∧x.kind=y.kind∧((x.kind≠5∧x.kind≠6)∨B x y))
def kP (B:TA→TA→Prop) (a b:TA):Prop:=∀x∈hd a,∃y∈hd b,BP loose B x y
def ZQ (R:TA→TA→Prop):Prop:=∀a b,R a b→G a∧G b∧kP hd loose (iM R) a b
def LE (a b:TA):Prop:=∃R,ZQ G hd loose R∧R a b
def onP (P:List (Bytes×Bytes)) (x y:TA):Prop:=(tx x,tx y)∈P
def Pz (P:List (Bytes×Bytes)) (π:Bytes×Bytes):Prop:=
 ∃a b x y,G a∧G b∧x∈hd a∧y∈hd b∧π=(tx x,tx y)∧iM (kP hd loose (onP tx P)) x y
end
theorem iM.mono {R R':TA→TA→Prop} (h:∀a b,R a b→R' a b) {x y:TA} (hb:iM R x y):iM R' x y:=by
 unfold iM at hb⊢;split at hb
 ·rename_i h5
  rw[if_pos h5];exact fun p hp=>⟨(hb p hp).1,h _ _ (hb p hp).2⟩
 ·rename_i h5
  rw[if_neg h5];obtain⟨x0,x1,y0,y1,e1,e2,h1,h2⟩:=hb;exact⟨x0,x1,y0,y1,e1,e2,h _ _ h1,h _ _ h2⟩
theorem BP.mono {loose:Bool} {B B':TA→TA→Prop} {x y:TA} (h:B x y→B' x y) (hu:BP loose B x y):BP loose B' x y:=by
 rcases hu with h1|⟨h1,h2,h3⟩
 ·exact .inl h1
 ·exact .inr ⟨h1,h2,h3.imp id h⟩
theorem kP.mono {hd:TA→List TA} {loose:Bool} {B B':TA→TA→Prop} (h:∀x y,B x y→B' x y) {a b:TA} (hh:kP hd loose B a b):kP hd loose B' a b:=fun x hx=>
 let⟨y,hy,hu⟩:=hh x hx
 ⟨y,hy,hu.mono (h x y)⟩
variable {G : TA → Prop} {hd : TA → List TA} {tx : TA → Bytes} {loose : Bool}
theorem Pz.mono {P P':List (Bytes×Bytes)} (h:∀π∈P,π∈P') {π:Bytes×Bytes} (hj:Pz G hd tx loose P π):Pz G hd tx loose P' π:=by
 obtain⟨a,b,x,y,h1,h2,h3,h4,h5,h6⟩:=hj;exact⟨a,b,x,y,h1,h2,h3,h4,h5,h6.mono fun _ _ hh=>hh.mono fun x y hp=>h _ hp⟩
def jr (G:TA→Prop) (hd:TA→List TA) (tx:TA→Bytes) (loose:Bool) (S S':TrS):Prop:=
 S'.ok∧∃z,S'.cur=S.cur ++z∧∀π∈z,Pz G hd tx loose S'.cur π
theorem jr.refl {S:TrS} (h:S.ok):jr G hd tx loose S S:=⟨h,[],by simp,fun π hp=>by cases hp⟩
theorem jr.sub {S S':TrS} (h:jr G hd tx loose S S'):∀π∈S.cur,π∈S'.cur:=fun π hp=>by
 obtain⟨_,z,e,_⟩:=h;rw[e];exact List.mem_append_left _ hp
theorem jr.trans {S S' S'':TrS} (h:jr G hd tx loose S S') (h':jr G hd tx loose S' S''):jr G hd tx loose S S'':=by
 have hs:=h'.sub;obtain⟨o1,z,e1,j1⟩:=h;obtain⟨o2,z',e2,j2⟩:=h';refine⟨o2,z ++z',by rw[e2,e1,List.append_assoc],fun π hp=>?_⟩;rcases List.mem_append.1 hp with hp|hp
 ·exact(j1 π hp).mono hs
 ·exact j2 π hp
theorem IL {S:TrS} (h:S.ok):S.cur.length=S.len:=by unfold TrS.cur;rw[List.length_take];have:=h.1;omega
theorem JQ {S:TrS} (h:S.ok) (p:Bytes×Bytes):(S.push p).cur=S.cur ++[p]:=by
 obtain⟨v,xs,len⟩:=S;obtain⟨h1,h2⟩:=h
 cases v with
 |zero=>
  have:len=0:=h2 rfl;subst this;rfl
 |succ v=>
  show(xs.take len ++[p]).take (len+1)=xs.take len ++[p];have h1:len≤xs.length:=h1;rw[List.take_of_length_le];simp;omega
theorem OW {S S':TrS} (h:S.ok) {z:List (Bytes×Bytes)} (e:S'.cur=S.cur ++z) (hok:S'.ok):S.len≤S'.len∧(S'.cut S.len).cur=S.cur:=by
 have l1:=IL h;have l2:=IL hok;rw[e,List.length_append,l1]at l2;refine⟨by omega,?_⟩;show S'.xs.take S.len=S.cur;have:S'.cur.take S.len=S.cur:=by rw[e,←l1,List.take_left]
 rw[←this];unfold TrS.cur;rw[List.take_take]
 congr 1;omega
structure zK (G:TA→Prop) (hd:TA→List TA) (tx:TA→Bytes) (loose:Bool) (rel:TrS→TA→TA→Option (Bool×TrS)):Prop where
 grows:∀S a b r S',S.ok→G a→G b→rel S a b=some (r,S')→jr G hd tx loose S S'
 yes:∀S a b S',S.ok→G a→G b→rel S a b=some (true,S')→kP hd loose (onP tx S'.cur) a b
 no:∀S a b S',S.ok→G a→G b→rel S a b=some (false,S')→¬LE G hd loose a b
theorem wH {σ α:Type} {st:σ→α→Option (Bool×σ)} {I:σ→Prop} {Gr:σ→σ→Prop} (hr:∀s,I s→Gr s s) (ht:∀a b c,Gr a b→Gr b c→Gr a c):∀(l:List α),(∀s x b s',x∈l→I s→st s x=some (b,s')→I s'∧Gr s s')→∀s b s',I s→iq st s l=some (b,s')→
  I s'∧Gr s s'∧(b=true→∀x∈l,∃s1 s2,I s1∧st s1 x=some (true,s2)∧Gr s2 s')∧(b=false→∃x∈l,∃s1,I s1∧st s1 x=some (false,s'))
 |[],_,s,b,s',h,e=>by cases e;exact⟨h,hr _ h,fun _ x hx=>(by cases hx),fun h=>(by cases h)⟩
 |x::l,hs,s,b,s',h,e=>by
  rw[iq]at e
  cases hq:st s x with
  |none=>rw[hq]at e;cases e
  |some q=>
   obtain⟨c,s2⟩:=q;rw[hq]at e;obtain⟨i2,g2⟩:=hs s x c s2 (by simp) h hq;cases c
   ·cases e
    exact⟨i2,g2,fun h=>(by cases h),fun _=>⟨x,by simp,s,h,hq⟩⟩
   ·obtain⟨i3,g3,y3,n3⟩:=wH hr ht l (fun s x b s' hx=>hs s x b s' (by simp[hx])) s2 b s' i2 e
    refine⟨i3,ht _ _ _ g2 g3,fun hb z hz=>?_,fun hb=>?_⟩
    ·rcases List.mem_cons.1 hz with rfl|hz
     ·exact⟨s,s2,h,hq,g3⟩
     ·exact y3 hb z hz
    ·obtain⟨z,hz,rest⟩:=n3 hb
     exact⟨z,by simp[hz],rest⟩
theorem LA {σ α:Type} {st:σ→α→Option (Bool×σ)} {I:σ→Prop} {Gr:σ→σ→Prop} (hr:∀s,I s→Gr s s) (ht:∀a b c,Gr a b→Gr b c→Gr a c):∀(l:List α),(∀s x b s',x∈l→I s→st s x=some (b,s')→I s'∧Gr s s')→∀s b s',I s→qD st s l=some (b,s')→
  I s'∧Gr s s'∧(b=true→∃x∈l,∃s1,I s1∧st s1 x=some (true,s'))∧(b=false→∀x∈l,∃s1 s2,I s1∧st s1 x=some (false,s2))
 |[],_,s,b,s',h,e=>by cases e;exact⟨h,hr _ h,fun h=>(by cases h),fun _ x hx=>by cases hx⟩
 |x::l,hs,s,b,s',h,e=>by
  rw[qD]at e
  cases hq:st s x with
  |none=>rw[hq]at e;cases e
  |some q=>
   obtain⟨c,s2⟩:=q;rw[hq]at e;obtain⟨i2,g2⟩:=hs s x c s2 (by simp) h hq;cases c
   ·obtain⟨i3,g3,y3,n3⟩:=LA hr ht l (fun s x b s' hx=>hs s x b s' (by simp[hx])) s2 b s' i2 e
    refine⟨i3,ht _ _ _ g2 g3,fun hb=>?_,fun hb z hz=>?_⟩
    ·obtain⟨z,hz,rest⟩:=y3 hb
     exact⟨z,by simp[hz],rest⟩
    ·rcases List.mem_cons.1 hz with rfl|hz
     ·exact⟨s,s2,h,hq⟩
     ·exact n3 hb z hz
   ·cases e
    exact⟨i2,g2,fun _=>⟨x,by simp,s,h,hq⟩,fun h=>by cases h⟩
structure kX (G:TA→Prop) (hd:TA→List TA):Prop where
 sub:∀t,G t→∀h∈hd t,∀x∈h.l,G x
 fn:∀t,G t→∀h∈hd t,h.kind=6→∃a b,h.l=[a,b]
 rcd:∀t,G t→∀h∈hd t,h.kind=5→h.names.length=h.l.length∧h.names.Pairwise (· < ·)
theorem kX.at {G:TA→Prop} {hd:TA→List TA} (H:kX G hd) {t h:TA} (ht:G t) (hh:h∈hd t) (h5:h.kind=5) {nm:Bytes} (hm:nm∈h.names):G (h.l[l6 h.names nm]?.getD default):=by
 obtain⟨h1,h2⟩:=H.rcd t ht h hh h5;have h3:=(yY h2).2 hm;have h4:=(List.getElem?_eq_some_iff.1 h3).1;have h6:l6 h.names nm<h.l.length:=by omega
 rw[List.getElem?_eq_getElem h6];exact H.sub t ht h hh _ (List.getElem_mem h6)
theorem JO {rel:TrS→TA→TA→Option (Bool×TrS)} (A:zK G hd tx loose rel) (H:kX G hd) {a b x y:TA} (ha:G a) (hb:G b) (hx:x∈hd a) (hy:y∈hd b) (h5:x.kind=5) {S:TrS} {r:Bool} {S':TrS} (hS:S.ok) (h:EN rel S x y=some (r,S')):
  jr G hd tx loose S S'∧(r=true→iM (kP hd loose (onP tx S'.cur)) x y)∧(r=false→¬iM (LE G hd loose) x y):=by
 have hstep:∀s p b' s',p∈y.names.zip y.l→TrS.ok s→(if p.1∈x.names then rel s (x.l[l6 x.names p.1]?.getD default) p.2 else some (false,s))=some (b',s')→TrS.ok s'∧jr G hd tx loose s s':=fun s p b' s' hp hs he=>by
  split at he
  ·rename_i hm
   have hg:=A.grows _ _ _ _ _ hs (H.at ha hx h5 hm) (H.sub b hb y hy _ (List.of_mem_zip hp).2) he;exact⟨hg.1,hg⟩
  ·cases he;exact⟨hs,jr.refl hs⟩
 obtain⟨_,hg,hyes,hno⟩:=wH (I:=TrS.ok) (Gr:=jr G hd tx loose) (fun s hs=>jr.refl hs) (fun _ _ _ h h'=>h.trans h') _ hstep _ _ _ hS h;refine⟨hg,fun hr=>?_,fun hr hbody=>?_⟩
 ·unfold iM
  rw[if_pos h5];intro p hp;obtain⟨s1,s2,i1,e1,g1⟩:=hyes hr p hp;split at e1
  ·rename_i hm
   exact⟨hm,(A.yes _ _ _ _ i1 (H.at ha hx h5 hm) (H.sub b hb y hy _ (List.of_mem_zip hp).2) e1).mono fun x y hp=>g1.sub _ hp⟩
  ·cases e1
 ·unfold iM at hbody
  rw[if_pos h5]at hbody;obtain⟨p,hp,s1,i1,e1⟩:=hno hr;obtain⟨hm,hle⟩:=hbody p hp;rw[if_pos hm]at e1;exact A.no _ _ _ _ i1 (H.at ha hx h5 hm) (H.sub b hb y hy _ (List.of_mem_zip hp).2) e1 hle
theorem TL {rel:TrS→TA→TA→Option (Bool×TrS)} (A:zK G hd tx loose rel) (H:kX G hd) {a b x y:TA} (ha:G a) (hb:G b) (hx:x∈hd a) (hy:y∈hd b) (h5:¬x.kind=5) {S:TrS} {r:Bool} {S':TrS} (hS:S.ok) (h:Ap rel S x y=some (r,S')):
  jr G hd tx loose S S'∧(r=true→iM (kP hd loose (onP tx S'.cur)) x y)∧(r=false→¬iM (LE G hd loose) x y):=by
 unfold Ap at h;split at h
 ·rename_i y0 y1 x0 x1 ey ex
  have g0:G x0:=H.sub a ha x hx _ (by rw[ex];simp);have g1:G x1:=H.sub a ha x hx _ (by rw[ex];simp);have k0:G y0:=H.sub b hb y hy _ (by rw[ey];simp);have k1:G y1:=H.sub b hb y hy _ (by rw[ey];simp)
  have hno:¬(LE G hd loose y0 x0∧LE G hd loose x1 y1)→¬iM (LE G hd loose) x y:=fun hn hbody=>by
   unfold iM at hbody;rw[if_neg h5]at hbody;obtain⟨_,_,_,_,e1,e2,h1,h2⟩:=hbody;rw[ex]at e1;rw[ey]at e2;cases e1;cases e2;exact hn ⟨h1,h2⟩
  split at h
  ·cases h
  ·rename_i hq
   cases h;exact⟨A.grows _ _ _ _ _ hS k0 g0 hq,fun h=>(by cases h),fun _=>hno fun hh=>A.no _ _ _ _ hS k0 g0 hq hh.1⟩
  ·rename_i S2 hq
   have hg:=A.grows _ _ _ _ _ hS k0 g0 hq;have hg2:=A.grows _ _ _ _ _ hg.1 g1 k1 h;refine⟨hg.trans hg2,fun hr=>?_,fun hr=>hno fun hh=>?_⟩
   ·subst hr
    unfold iM;rw[if_neg h5];exact⟨x0,x1,y0,y1,ex,ey,(A.yes _ _ _ _ hS k0 g0 hq).mono fun x y hp=>hg2.sub _ hp,A.yes _ _ _ _ hg.1 g1 k1 h⟩
   ·subst hr
    exact A.no _ _ _ _ hg.1 g1 k1 h hh.2
 ·cases h
theorem CB {rel:TrS→TA→TA→Option (Bool×TrS)} (A:zK G hd tx loose rel) (H:kX G hd) {a b x y:TA} (ha:G a) (hb:G b) (hx:x∈hd a) (hy:y∈hd b) {S:TrS} {r:Bool} {S':TrS} (hS:S.ok) (h:rM tx loose rel S x y=some (r,S')):
  jr G hd tx loose S S'∧(r=true→BP loose (onP tx S'.cur) x y)∧(r=false→¬BP loose (iM (LE G hd loose)) x y):=by
 unfold rM at h;split at h
 ·rename_i h4
  cases h;refine⟨jr.refl hS,fun hr=>.inl ⟨h4,hr⟩,fun hr hu=>?_⟩;rcases hu with hu|hu
  ·rw[hr]at hu;exact absurd hu.2 (by simp)
  ·exact hu.1 h4
 rename_i h4;split at h
 ·rename_i hk
  cases h;refine⟨jr.refl hS,fun hr=>(by cases hr),fun _ hu=>?_⟩;rcases hu with hu|hu
  ·exact h4 hu.1
  ·exact hk hu.2.1
 rename_i hk;have hk:x.kind=y.kind:=Decidable.not_not.1 hk;split at h
 ·rename_i h7
  cases h;exact⟨jr.refl hS,fun _=>.inr ⟨h4,hk,.inl h7⟩,fun hr=>by cases hr⟩
 rename_i h7;split at h
 ·cases h
 split at h
 ·rename_i hc
  cases h;exact⟨jr.refl hS,fun _=>.inr ⟨h4,hk,.inr (by simpa[onP]using hc)⟩,fun hr=>by cases hr⟩
 rename_i hc;have QI:=TrS.BU hS (tx x,tx y);have hpc:=JQ hS (tx x,tx y)
 have hrun:∀r S',(if x.kind=5 then EN rel (S.push (tx x,tx y)) x y else Ap rel (S.push (tx x,tx y)) x y)=some (r,S')→
   jr G hd tx loose (S.push (tx x,tx y)) S'∧(r=true→iM (kP hd loose (onP tx S'.cur)) x y)∧(r=false→¬iM (LE G hd loose) x y):=fun r S' h=>by
  split at h
  ·rename_i h5
   exact JO A H ha hb hx hy h5 QI h
  ·rename_i h5
   exact TL A H ha hb hx hy h5 QI h
 split at h
 ·cases h
 ·rename_i S2 hq
  cases h;obtain⟨⟨ok2,z,e2,j2⟩,hyes,_⟩:=hrun _ _ hq;rw[hpc,List.append_assoc]at e2;refine⟨⟨ok2,_,e2,fun π hp=>?_⟩,fun _=>.inr ⟨h4,hk,.inr ?_⟩,fun hr=>by cases hr⟩
  ·rcases List.mem_append.1 hp with hp|hp
   ·rw[List.mem_singleton]at hp
    subst hp;exact⟨a,b,x,y,ha,hb,hx,hy,rfl,hyes rfl⟩
   ·exact j2 π hp
  ·show(tx x,tx y)∈S'.cur
   rw[e2];simp
 ·rename_i S2 hq
  obtain⟨⟨ok2,z,e2,j2⟩,_,hno⟩:=hrun _ _ hq;rw[hpc,List.append_assoc]at e2;split at h
  ·rename_i hle
   cases h;obtain⟨_,hcut⟩:=OW hS e2 ok2;refine⟨⟨TrS.Nw ok2 hle,[],by rw[hcut,List.append_nil],fun π hp=>by cases hp⟩,fun hr=>(by cases hr),fun _ hu=>?_⟩;rcases hu with hu|hu
   ·exact h4 hu.1
   ·rcases hu.2.2 with hu|hu
    ·exact h7 hu
    ·exact hno rfl hu
  ·cases h
theorem Df (H:kX G hd):∀n,zK G hd tx loose (qJ hd tx loose n)
 |0=>⟨fun _ _ _ _ _ _ _ _ h=>(by rw[qJ]at h;cases h),fun _ _ _ _ _ _ _ h=>(by rw[qJ]at h;cases h),fun _ _ _ _ _ _ _ h=>(by rw[qJ]at h;cases h)⟩
 |n+1=>by
  have A:=Df H n
  have key:∀S a b r S',S.ok→G a→G b→qJ hd tx loose (n+1) S a b=some (r,S')→jr G hd tx loose S S'∧(r=true→kP hd loose (onP tx S'.cur) a b)∧(r=false→¬LE G hd loose a b):=by
   intro S a b r S' hS ha hb h;rw[qJ]at h
   have hany:∀x∈hd a,∀s b' s',TrS.ok s→qD (fun S y=>rM tx loose (qJ hd tx loose n) S x y) s (hd b)=some (b',s')→_:=fun x hx s b' s' hs he=>
    LA (I:=TrS.ok) (Gr:=jr G hd tx loose) (fun s hs=>jr.refl hs) (fun _ _ _ h h'=>h.trans h') (hd b) (fun s y b' s' hy hs he=>by
     have:=CB A H ha hb hx hy hs he
     exact⟨this.1.1,this.1⟩) s b' s' hs he
   obtain⟨_,hg,hyes,hno⟩:=wH (I:=TrS.ok) (Gr:=jr G hd tx loose) (fun s hs=>jr.refl hs) (fun _ _ _ h h'=>h.trans h') (hd a) (fun s x b' s' hx hs he=>by
    have:=hany x hx s b' s' hs he
    exact⟨this.1,this.2.1⟩) S r S' hS h
   refine⟨hg,fun hr x hx=>?_,fun hr hle=>?_⟩
   ·obtain⟨s1,s2,i1,e1,g1⟩:=hyes hr x hx
    obtain⟨_,_,hy,_⟩:=hany x hx s1 true s2 i1 e1;obtain⟨y,hym,s3,i3,e3⟩:=hy rfl;have:=(CB A H ha hb hx hym i3 e3).2.1 rfl;exact⟨y,hym,this.mono fun hp=>g1.sub _ hp⟩
   ·obtain⟨x,hx,s1,i1,e1⟩:=hno hr
    obtain⟨_,_,_,hn⟩:=hany x hx s1 false S' i1 e1;obtain⟨R,hs,hab⟩:=hle;obtain⟨_,_,hh⟩:=hs a b hab;obtain⟨y,hy,hu⟩:=hh x hx;obtain⟨s2,s3,i2,e2⟩:=hn rfl y hy;exact(CB A H ha hb hx hy i2 e2).2.2 rfl (hu.mono fun hb=>hb.mono fun a b hr=>⟨R,hs,hr⟩)
  exact⟨fun S a b r S' hS ha hb h=>(key S a b r S' hS ha hb h).1,fun S a b S' hS ha hb h=>(key S a b true S' hS ha hb h).2.1 rfl,fun S a b S' hS ha hb h=>(key S a b false S' hS ha hb h).2.2 rfl⟩
theorem Bq (H:kX G hd) (hinj:∀a b x y,G a→G b→x∈hd a→y∈hd b→tx x=tx y→x=y) {n:Nat} {a b:TA} {r:Bool} {S':TrS} (ha:G a) (hb:G b) (h:qJ hd tx loose n ⟨0,[],0⟩ a b=some (r,S')):r=true↔LE G hd loose a b:=by
 have A:=Df (tx:=tx) (loose:=loose) H n;have h0:TrS.ok ⟨0,[],0⟩:=⟨Nat.le_refl _,fun _=>rfl⟩;refine⟨fun hr=>?_,fun hle=>?_⟩
 ·subst hr
  obtain⟨ok',z,e,j⟩:=A.grows _ _ _ _ _ h0 ha hb h;have e:S'.cur=z:=e;have hall:=A.yes _ _ _ _ h0 ha hb h;refine⟨fun a b=>G a∧G b∧kP hd loose (onP tx S'.cur) a b,fun a b ⟨ga,gb,hh⟩=>⟨ga,gb,fun x hx=>?_⟩,ha,hb,hall⟩;obtain⟨y,hy,hu⟩:=hh x hx;refine⟨y,hy,hu.mono fun hp=>?_⟩;have hp:(tx x,tx y)∈S'.cur:=hp;rw[e]at hp;obtain⟨a',b',x',y',ga',gb',hx',hy',e',hbody⟩:=j _ hp;have ex:=hinj a a' x x' ga ga' hx hx' (congrArg Prod.fst e');have ey:=hinj b b' y y' gb gb' hy hy' (congrArg Prod.snd e');subst ex ey;unfold iM at hbody⊢;split at hbody
  ·rename_i h5
   rw[if_pos h5];exact fun p hp=>⟨(hbody p hp).1,H.at ga hx h5 (hbody p hp).1,H.sub b gb y hy _ (List.of_mem_zip hp).2,(hbody p hp).2⟩
  ·rename_i h5
   rw[if_neg h5];obtain⟨x0,x1,y0,y1,e1,e2,h1,h2⟩:=hbody;exact⟨x0,x1,y0,y1,e1,e2,⟨H.sub b gb y hy _ (by rw[e2];simp),H.sub a ga x hx _ (by rw[e1];simp),h1⟩,⟨H.sub a ga x hx _ (by rw[e1];simp),H.sub b gb y hy _ (by rw[e2];simp),h2⟩⟩
 ·cases r
  ·exact absurd hle (A.no _ _ _ _ h0 ha hb h)
  ·rfl
end Go.Ag
/- The judge comes to an end: each step of its recursion puts another pair on the trail. -/
namespace Go.Ag
open Go
variable {G : TA → Prop} {hd : TA → List TA} {tx : TA → Bytes} {loose : Bool}
theorem rA {σ α:Type} {st:σ→α→Option (Bool×σ)} {I:σ→Prop}:∀(l:List α),(∀s x,x∈l→I s→∃b s',st s x=some (b,s')∧I s')→∀s,I s→∃b s',iq st s l=some (b,s')∧I s'
 |[],_,s,h=>⟨true,s,rfl,h⟩
 |x::l,hs,s,h=>by
  obtain⟨b,s2,e,h2⟩:=hs s x (by simp) h;rw[iq,e];cases b
  ·exact⟨false,s2,rfl,h2⟩
  ·exact rA l (fun s x hx=>hs s x (by simp[hx])) s2 h2
theorem Ez {σ α:Type} {st:σ→α→Option (Bool×σ)} {I:σ→Prop}:∀(l:List α),(∀s x,x∈l→I s→∃b s',st s x=some (b,s')∧I s')→∀s,I s→∃b s',qD st s l=some (b,s')∧I s'
 |[],_,s,h=>⟨false,s,rfl,h⟩
 |x::l,hs,s,h=>by
  obtain⟨b,s2,e,h2⟩:=hs s x (by simp) h;rw[qD,e];cases b
  ·exact Ez l (fun s x hx=>hs s x (by simp[hx])) s2 h2
  ·exact⟨true,s2,rfl,h2⟩
def muP (PP:List (Bytes×Bytes)) (S:TrS):Nat:=(PP.filter fun π=> !S.cur.contains π).length
theorem Ia {PP:List (Bytes×Bytes)} {S S':TrS} (h:∀π∈S.cur,π∈S'.cur):muP PP S'≤muP PP S:=by
 unfold muP
 induction PP with
 |nil=>exact Nat.le_refl _
 |cons p PP ih=>
  rw[List.filter_cons,List.filter_cons]
  by_cases h1:p∈S.cur
  ·have h2:=h p h1
   simp only[List.contains_eq_mem,h1,h2,decide_true,Bool.not_true,Bool.false_eq_true,if_false];simpa only[List.contains_eq_mem]using ih
  ·by_cases h2:p∈S'.cur
   ·simp only[List.contains_eq_mem,h1,h2,decide_true,decide_false,Bool.not_true,Bool.not_false,Bool.false_eq_true,if_false,if_true,List.length_cons]
    simp only[List.contains_eq_mem]at ih;omega
   ·simp only[List.contains_eq_mem,h1,h2,decide_false,Bool.not_false,if_true,List.length_cons]
    simp only[List.contains_eq_mem]at ih;omega
theorem Zd {PP:List (Bytes×Bytes)} {S S':TrS} (h:∀π∈S.cur,π∈S'.cur) {p:Bytes×Bytes} (hp:p∈PP) (h1:p∉S.cur) (h2:p∈S'.cur):muP PP S'<muP PP S:=by
 induction PP with
 |nil=>cases hp
 |cons q PP ih=>
  have hle:=Ia (PP:=PP) h;unfold muP at hle ih⊢;rw[List.filter_cons,List.filter_cons];simp only[List.contains_eq_mem]at hle ih⊢;rcases List.mem_cons.1 hp with rfl|hp
  ·simp only[h1,h2,decide_true,decide_false,Bool.not_true,Bool.not_false,Bool.false_eq_true,if_false,if_true,List.length_cons]
   omega
  ·have:=ih hp
   by_cases k1:q∈S.cur
   ·have k2:=h q k1
    simp only[k1,k2,decide_true,Bool.not_true,Bool.false_eq_true,if_false];exact this
   ·by_cases k2:q∈S'.cur
    ·simp only[k1,k2,decide_true,decide_false,Bool.not_true,Bool.not_false,Bool.false_eq_true,if_false,if_true,List.length_cons]
     omega
    ·simp only[k1,k2,decide_false,Bool.not_false,if_true,List.length_cons]
     omega
structure jZ (PP:List (Bytes×Bytes)) (S:TrS):Prop where
 ok:S.ok
 nodup:S.cur.Nodup
 sub:∀π∈S.cur,π∈PP
theorem jZ.len {PP:List (Bytes×Bytes)} {S:TrS} (h:jZ PP S):S.len≤PP.length:=by
 rw[←IL h.ok];exact h.nodup.length_le_of_subset h.sub
def Yu (G:TA→Prop) (hd:TA→List TA) (tx:TA→Bytes) (PP:List (Bytes×Bytes)):Prop:=∀a b x y,G a→G b→x∈hd a→y∈hd b→(tx x,tx y)∈PP
theorem Ma {PP:List (Bytes×Bytes)} (hP:Yu G hd tx PP) (hl:PP.length<2^40) (H:kX G hd) {rel:TrS→TA→TA→Option (Bool×TrS)} (A:zK G hd tx loose rel) {n:Nat}
  (ih:∀S a b,jZ PP S→muP PP S<n→G a→G b→∃r S',rel S a b=some (r,S')∧jZ PP S') {a b x y:TA} (ha:G a) (hb:G b) (hx:x∈hd a) (hy:y∈hd b) {S:TrS} (hS:jZ PP S) (hmu:muP PP S≤n):
  ∃r S',rM tx loose rel S x y=some (r,S')∧jZ PP S'∧muP PP S'≤n:=by
 unfold rM;split
 ·exact⟨_,_,rfl,hS,hmu⟩
 split
 ·exact⟨_,_,rfl,hS,hmu⟩
 rename_i hk;have hk:x.kind=y.kind:=Decidable.not_not.1 hk;split
 ·exact⟨_,_,rfl,hS,hmu⟩
 rename_i h7;rw[if_neg (by have:=hS.len;omega)];split
 ·exact⟨_,_,rfl,hS,hmu⟩
 rename_i hc;have hc:(tx x,tx y)∉S.cur:=by simpa using hc
 have hpp:=hP a b x y ha hb hx hy;have hpc:=JQ hS.ok (tx x,tx y)
 have hpush:jZ PP (S.push (tx x,tx y)):=by
  refine⟨TrS.BU hS.ok _,?_,fun π hπ=>?_⟩
  ·rw[hpc,List.nodup_append]
   exact⟨hS.nodup,by simp,fun p hp q hq=>by rw[List.mem_singleton]at hq;subst hq;rintro rfl;exact hc hp⟩
  ·rw[hpc]at hπ
   rcases List.mem_append.1 hπ with hπ|hπ
   ·exact hS.sub π hπ
   ·rw[List.mem_singleton]at hπ;subst hπ;exact hpp
 have hsub:∀π∈S.cur,π∈(S.push (tx x,tx y)).cur:=fun π hπ=>by rw[hpc];exact List.mem_append_left _ hπ
 have hlt:muP PP (S.push (tx x,tx y))<n:=Nat.lt_of_lt_of_le (Zd hsub hpp hc (by rw[hpc];simp)) hmu;have h56:x.kind=5∨x.kind=6:=by omega
 have hin:∃r S',(if x.kind=5 then EN rel (S.push (tx x,tx y)) x y else Ap rel (S.push (tx x,tx y)) x y)=some (r,S')∧jZ PP S'∧jr G hd tx loose (S.push (tx x,tx y)) S':=by
  by_cases h5:x.kind=5
  ·rw[if_pos h5]
   have oQ:=rA (st:=fun S p=>if p.1∈x.names then rel S (x.l[l6 x.names p.1]?.getD default) p.2 else some (false,S)) (I:=fun s=>jZ PP s∧muP PP s<n) (y.names.zip y.l) (fun s p hp hs=>by
    by_cases hm:p.1∈x.names
    ·have g1:=H.at ha hx h5 hm
     have g2:=H.sub b hb y hy _ (List.of_mem_zip hp).2;obtain⟨r,S',e,k⟩:=ih s _ _ hs.1 hs.2 g1 g2;have hgr:=A.grows _ _ _ _ _ hs.1.ok g1 g2 e;exact⟨r,S',by rw[if_pos hm];exact e,k,Nat.lt_of_le_of_lt (Ia hgr.sub) hs.2⟩
    ·exact⟨false,s,by rw[if_neg hm],hs⟩) _ ⟨hpush,hlt⟩
   obtain⟨r,S',e,k⟩:=oQ;exact⟨r,S',e,k.1,(JO A H ha hb hx hy h5 hpush.ok e).1⟩
  ·rw[if_neg h5]
   have h6:x.kind=6:=by omega
   obtain⟨x0,x1,ex⟩:=H.fn a ha x hx h6;obtain⟨y0,y1,ey⟩:=H.fn b hb y hy (by rw[←hk];exact h6);have g0:G x0:=H.sub a ha x hx _ (by rw[ex];simp);have g1:G x1:=H.sub a ha x hx _ (by rw[ex];simp);have k0:G y0:=H.sub b hb y hy _ (by rw[ey];simp);have k1:G y1:=H.sub b hb y hy _ (by rw[ey];simp);obtain⟨r,S2,e,t2⟩:=ih _ _ _ hpush hlt k0 g0;have hgr:=A.grows _ _ _ _ _ hpush.ok k0 g0 e;cases r
   ·have he:Ap rel (S.push (tx x,tx y)) x y=some (false,S2):=by unfold Ap;rw[ex,ey];simp only[e]
    exact⟨false,S2,he,t2,hgr⟩
   ·obtain⟨r',S3,e3,t3⟩:=ih _ _ _ t2 (Nat.lt_of_le_of_lt (Ia hgr.sub) hlt) g1 k1
    have he:Ap rel (S.push (tx x,tx y)) x y=some (r',S3):=by unfold Ap;rw[ex,ey];simp only[e];exact e3
    exact⟨r',S3,he,t3,hgr.trans (A.grows _ _ _ _ _ t2.ok g1 k1 e3)⟩
 obtain⟨r,S',e,t',hgr⟩:=hin;rw[e];have hle:=hgr.sub;cases r
 ·obtain⟨ok2,z,e2,_⟩:=hgr
  rw[hpc,List.append_assoc]at e2;obtain⟨hlen,hcut⟩:=OW hS.ok e2 ok2;refine⟨false,S'.cut S.len,by simp only[if_pos hlen],⟨TrS.Nw ok2 hlen,by rw[hcut];exact hS.nodup,by rw[hcut];exact hS.sub⟩,?_⟩;have:muP PP (S'.cut S.len)=muP PP S:=by unfold muP;rw[hcut]
  omega
 ·exact⟨true,S',rfl,t',Nat.le_trans (Ia hle) (Nat.le_of_lt hlt)⟩
theorem Dc {PP:List (Bytes×Bytes)} (hP:Yu G hd tx PP) (hl:PP.length<2^40) (H:kX G hd):∀n S a b,jZ PP S→muP PP S<n→G a→G b→∃r S',qJ hd tx loose n S a b=some (r,S')∧jZ PP S'
 |0,S,a,b,_,h,_,_=>by omega
 |n+1,S,a,b,hS,hmu,ha,hb=>by
  have ih:=Dc hP hl H n;have A:=Df (tx:=tx) (loose:=loose) H n;rw[qJ];have hmu:muP PP S≤n:=by omega
  have:=rA (st:=fun S x=>qD (fun S y=>rM tx loose (qJ hd tx loose n) S x y) S (hd b)) (I:=fun s=>jZ PP s∧muP PP s≤n) (hd a) (fun s x hx hs=>
   Ez (st:=fun S y=>rM tx loose (qJ hd tx loose n) S x y) (I:=fun s=>jZ PP s∧muP PP s≤n) (hd b) (fun s y hy hs=>Ma hP hl H A ih ha hb hx hy hs.1 hs.2) s hs) S ⟨hS,hmu⟩
  obtain⟨r,S',e,k⟩:=this;exact⟨r,S',e,k.1⟩
theorem Bp {PP:List (Bytes×Bytes)} (hP:Yu G hd tx PP) (hl:PP.length<2^40) (H:kX G hd) {a b:TA} (ha:G a) (hb:G b):∃n r S',qJ hd tx loose n ⟨0,[],0⟩ a b=some (r,S'):=by
 have h0:jZ PP ⟨0,[],0⟩:=⟨⟨Nat.le_refl _,fun _=>rfl⟩,by simp[TrS.cur],fun π h=>by simp[TrS.cur]at h⟩;obtain⟨r,S',e,_⟩:=Dc hP hl H (loose:=loose) _ ⟨0,[],0⟩ a b h0 (Nat.lt_succ_self _) ha hb;exact⟨_,r,S',e⟩
end Go.Ag
/- Which names lead to themselves; where spreading ends. -/
namespace Go.Ag
open Go
inductive rH (by_:List (Bytes×TA)):TA→Bytes→Prop where
 |here (t:TA) (nm:Bytes) (h:nm∈iV t):rH by_ t nm
 |step (t:TA) (r nm:Bytes) (h:r∈iV t) (h':rH by_ (dF by_ r) nm):rH by_ t nm
theorem rH.trans {by_:List (Bytes×TA)} {t:TA} {r nm:Bytes} (h:rH by_ t r) (h':rH by_ (dF by_ r) nm):rH by_ t nm:=by
 induction h with
 |here t r h=>exact .step t r nm h h'
 |step t q r h _ ih=>exact .step t q nm h (ih h')
variable {by_ : List (Bytes × TA)} {nm : Bytes}
theorem Gs :∀(n:Nat) (t:TA) (seen s:List Bytes),gY by_ nm n t seen=some (true,s)→rH by_ t nm
 |0,t,seen,s,h=>by rw[gY]at h;cases h
 |n+1,t,seen,s,h=>by
  rw[gY,Option.map_eq_some_iff]at h;obtain⟨⟨c,s1⟩,hf,e⟩:=h;have hc:c=false:=by have:=congrArg Prod.fst e;simpa using this
  subst hc;obtain⟨_,_,_,hno⟩:=wH (st:=jS (gY by_ nm n) by_ nm) (I:=fun _=>True) (Gr:=fun _ _=>True) (fun _ _=>trivial) (fun _ _ _ _ _=>trivial) (iV t) (fun _ _ _ _ _ _ _=>⟨trivial,trivial⟩) seen false s1 trivial hf;obtain⟨r,hr,s2,_,e2⟩:=hno rfl;unfold jS at e2;split at e2
  ·rename_i hq
   have:r=nm:=by simpa using hq
   subst this;exact .here t r hr
  ·split at e2
   ·cases e2
   ·split at e2
    ·cases e2
    ·rename_i b s3 hq
     have hb:b=true:=by have:=congrArg (fun o=>o.map Prod.fst) e2;simpa using this
     subst hb;exact .step t r nm hr (Gs n _ _ _ hq)
def xI (by_:List (Bytes×TA)) (nm:Bytes) (seen s:List Bytes):Prop:=
 (∀r∈seen,r∈s)∧∀r∈s,r∈seen∨∀q∈iV (dF by_ r),q≠nm∧q∈s
theorem xI.refl (s:List Bytes):xI by_ nm s s:=⟨fun _ h=>h,fun _ h=>.inl h⟩
theorem xI.trans {a b c:List Bytes} (h:xI by_ nm a b) (h':xI by_ nm b c):xI by_ nm a c:=
 ⟨fun r hr=>h'.1 r (h.1 r hr),fun r hr=>by
  rcases h'.2 r hr with k|k
  ·rcases h.2 r k with k|k
   ·exact .inl k
   ·exact .inr fun q hq=>⟨(k q hq).1,h'.1 q (k q hq).2⟩
  ·exact .inr k⟩
theorem Lc :∀(n:Nat) (t:TA) (seen s:List Bytes),gY by_ nm n t seen=some (false,s)→xI by_ nm seen s∧∀r∈iV t,r≠nm∧r∈s
 |0,t,seen,s,h=>by rw[gY]at h;cases h
 |n+1,t,seen,s,h=>by
  rw[gY,Option.map_eq_some_iff]at h;obtain⟨⟨c,s1⟩,hf,e⟩:=h;have hc:c=true:=by have:=congrArg Prod.fst e;simpa using this
  have hs:s1=s:=congrArg Prod.snd e;subst hc hs;clear e
  have key:∀(rs:List Bytes) (seen:List Bytes),iq (jS (gY by_ nm n) by_ nm) seen rs=some (true,s1)→xI by_ nm seen s1∧∀r∈rs,r≠nm∧r∈s1:=by
   intro rs
   induction rs with
   |nil=>intro seen h;cases h;exact⟨xI.refl _,fun r hr=>by cases hr⟩
   |cons r rs ih=>
    intro seen h;rw[iq]at h
    cases hq:jS (gY by_ nm n) by_ nm seen r with
    |none=>rw[hq]at h;cases h
    |some q=>
     obtain⟨c,s2⟩:=q;rw[hq]at h;cases c
     ·cases h
     ·obtain⟨k1,k2⟩:=ih s2 h
      unfold jS at hq;split at hq
      ·cases hq
      ·rename_i hne
       have hne:r≠nm:=by simpa using hne
       split at hq
       ·rename_i hc
        cases hq;have hc:r∈seen:=by simpa using hc
        exact⟨k1,fun x hx=>by
         rcases List.mem_cons.1 hx with rfl|hx
         ·exact⟨hne,k1.1 _ hc⟩
         ·exact k2 x hx⟩
       ·split at hq
        ·cases hq
        ·rename_i b s3 hcf
         have hb:b=false:=by have:=congrArg (fun o=>o.map Prod.fst) hq;simpa using this
         have hs3:s3=s2:=by have:=congrArg (fun o=>o.map Prod.snd) hq;simpa using this
         subst hb hs3;obtain⟨j1,j2⟩:=Lc n _ _ _ hcf
         have j:xI by_ nm seen s3:=by
          refine⟨fun x hx=>j1.1 x (by simp[hx]),fun x hx=>?_⟩;rcases j1.2 x hx with h'|h'
          ·rcases List.mem_append.1 h' with h'|h'
           ·exact .inl h'
           ·rw[List.mem_singleton]at h'
            subst h';exact .inr j2
          ·exact .inr h'
         exact⟨j.trans k1,fun x hx=>by
          rcases List.mem_cons.1 hx with rfl|hx
          ·exact⟨hne,k1.1 _ (j1.1 _ (by simp))⟩
          ·exact k2 x hx⟩
  exact key (iV t) seen hf
theorem Lb {n:Nat} {t:TA} {b:Bool} {s:List Bytes} (h:gY by_ nm n t []=some (b,s)):b=true↔rH by_ t nm:=by
 refine⟨fun hb=>by subst hb;exact Gs n t [] s h,fun hl=>?_⟩;cases b
 ·obtain⟨h1,h2⟩:=Lc n t [] s h
  have hcl:∀r∈s,∀q∈iV (dF by_ r),q≠nm∧q∈s:=fun r hr=>(h1.2 r hr).elim (fun h=>by cases h) id
  have:∀u m,rH by_ u m→m=nm→(∀r∈iV u,r≠nm∧r∈s)→False:=fun u m hl=>by
   induction hl with
   |here u m h=>intro e hu;exact(hu m h).1 e
   |step u r m h _ ih=>intro e hu;exact ih e (hcl r (hu r h).2)
  exact absurd (this t nm hl rfl h2) id
 ·rfl
theorem xW {α:Type} {p q:α→Bool} (h:∀x,p x=true→q x=true):∀l:List α,(l.filter p).Sublist (l.filter q)
 |[]=>by simp
 |x::l=>by
  have ih:=xW h l;rw[List.filter_cons,List.filter_cons];cases hp:p x
  ·cases hq:q x
   ·simpa using ih
   ·simpa using ih.cons x
  ·rw[h x hp]
   simpa using ih.cons_cons x
theorem BD {U:List Bytes} (hU:∀r,∀q∈iV (dF by_ r),q∈U):∀(n:Nat) (t:TA) (seen:List Bytes),(∀r∈iV t,r∈U)→(U.filter fun r=> !seen.contains r).length<n→∃b s,gY by_ nm n t seen=some (b,s)∧∀r∈seen,r∈s
 |0,t,seen,_,h=>by omega
 |n+1,t,seen,ht,h=>by
  have hmono:∀{a b:List Bytes},(∀r∈a,r∈b)→(U.filter fun r=> !b.contains r).length≤(U.filter fun r=> !a.contains r).length:=fun{a b} hab=>by
   refine(xW (fun r hr=>?_) U).length_le;simp only[List.contains_eq_mem,Bool.not_eq_true',decide_eq_false_iff_not]at hr⊢;exact fun hm=>hr (hab r hm)
  rw[gY]
  have hf:=rA (st:=jS (gY by_ nm n) by_ nm) (I:=fun s=>∀r∈seen,r∈s) (iV t) (fun s r hr hs=>by
   unfold jS;split
   ·exact⟨_,_,rfl,hs⟩
   ·split
    ·exact⟨_,_,rfl,hs⟩
    ·rename_i hc
     have hc:r∉s:=by simpa using hc
     have hlt:(U.filter fun q=> !(s ++[r]).contains q).length<n:=by
      have h1:(U.filter fun q=> !(s ++[r]).contains q).length<(U.filter fun q=> !s.contains q).length:=by
       have hsub:(U.filter fun q=> !(s ++[r]).contains q).Sublist (U.filter fun q=> !s.contains q):=xW (fun q hq=>by
        simp only[List.contains_eq_mem,Bool.not_eq_true',decide_eq_false_iff_not]at hq⊢
        exact fun hm=>hq (by simp[hm])) U
       rcases Nat.lt_or_ge (U.filter fun q=> !(s ++[r]).contains q).length (U.filter fun q=> !s.contains q).length with h'|h'
       ·exact h'
       ·have he:=hsub.eq_of_length_le h'
        have:r∈U.filter fun q=> !s.contains q:=List.mem_filter.2 ⟨ht r hr,by simp[hc]⟩
        rw[←he]at this;simp at this
      have h2:=hmono hs;omega
     obtain⟨b,s',e,k⟩:=BD hU n (dF by_ r) (s ++[r]) (hU r) hlt
     exact⟨!b,s',by rw[e],fun q hq=>k q (by simp[hs q hq])⟩) seen fun r hr=>hr
  obtain⟨b,s,e,k⟩:=hf;exact⟨!b,s,by rw[e];rfl,k⟩
theorem MX {q:Bytes} {r:Bytes} (h:q∈iV (dF by_ r)):∃p∈by_,q∈iV p.2:=by
 unfold dF at h
 cases hf:by_.find? (·.1==r)with
 |none=>rw[hf]at h;simp[default,mJ,iV]at h
 |some p=>rw[hf]at h;exact⟨p,List.mem_of_find?_eq_some hf,h⟩
theorem Ny (by_:List (Bytes×TA)) (nm:Bytes) (t:TA):∃n b s,gY by_ nm n t []=some (b,s):=by
 obtain⟨b,s,e,_⟩:=BD (by_:=by_) (nm:=nm) (U:=iV t ++by_.flatMap fun p=>iV p.2) (fun r q hq=>by
  obtain⟨p,hp,hq⟩:=MX hq
  exact List.mem_append_right _ (List.mem_flatMap.2 ⟨p,hp,hq⟩)) _ t [] (fun r hr=>List.mem_append_left _ hr) (Nat.lt_succ_self _)
 exact⟨_,b,s,e⟩
def nL (by_:List (Bytes×TA)) (nm:Bytes):Prop:=(by_.find? (·.1==nm)).isSome=false∨rH by_ (dF by_ nm) nm
theorem Uf {e:dL} {nm:Bytes}:(yg e nm).2=(e.by_.find? (·.1==nm)).isSome:=by
 unfold yg Ug;cases e.by_.find? (·.1==nm)<;>rfl
theorem vS {e:dL} {nm:Bytes}:(yg e nm).1=dF e.by_ nm:=by
 unfold yg Ug dF;cases e.by_.find? (·.1==nm)<;>rfl
theorem mF {e:dL} (h:lq by_ e) (hn:(by_.map (·.1)).Nodup) (nm:Bytes):vQ e nm=true↔nL by_ nm:=by
 unfold vQ nL;rw[Uf,h.hby]
 cases hf:by_.find? (·.1==nm)with
 |none=>simp
 |some p=>
  have hp:=List.mem_of_find?_eq_some hf;have hpn:p.1=nm:=by simpa using List.find?_some (p:=fun q:Bytes×TA=>q.1==nm) hf
  obtain⟨n,b,s,hc,hl⟩:=h.empty p hp;rw[hpn]at hc hl;have hlk:dF by_ nm=p.2:=by unfold dF;rw[hf];rfl
  rw[hlk];simp only[Option.isSome_some,if_true,Bool.true_eq_false,false_or,hl];exact Lb hc
end Go.Ag
/- Spreading ends; what it comes to. -/
namespace Go.Ag
open Go
theorem uR (e:dL):∀n,(∀t ys,bA e n t=some ys→bA e (n+1) t=some ys)∧(∀l ys,aZ e n l=some ys→aZ e (n+1) l=some ys)
 |0=>⟨fun t ys h=>(by rw[bA]at h;cases h),fun l ys h=>(by rw[aZ]at h;cases h)⟩
 |n+1=>by
  obtain⟨h1,h2⟩:=uR e n;refine⟨fun t ys h=>?_,fun l ys h=>?_⟩
  ·obtain⟨k,nm,ns,l⟩:=t
   rw[bA]at h⊢;split at h
   ·rename_i h8
    rw[if_pos h8];split at h
    ·rename_i he;rw[if_pos he];exact h
    ·rename_i he;rw[if_neg he];exact h1 _ _ h
   ·rename_i h8
    rw[if_neg h8];split at h
    ·rename_i h7;rw[if_pos h7];exact h2 _ _ h
    ·rename_i h7;rw[if_neg h7];exact h
  ·cases l with
   |nil=>rw[aZ]at h⊢;exact h
   |cons t l=>
    rw[aZ]at h⊢
    cases hx:bA e n t with
    |none=>rw[hx]at h;cases h
    |some xs=>
     cases hr:aZ e n l with
     |none=>rw[hx,hr]at h;cases h
     |some zs=>
      rw[hx,hr]at h;rw[h1 _ _ hx,h2 _ _ hr];exact h
theorem uS {e:dL} {n m:Nat} (hnm:n≤m) {t:TA} {ys:List TA} (h:bA e n t=some ys):bA e m t=some ys:=by
 induction hnm with
 |refl=>exact h
 |step _ ih=>exact(uR e _).1 _ _ ih
theorem G7 {e:dL} {n m:Nat} (hnm:n≤m) {t:List TA} {ys:List TA} (h:aZ e n t=some ys):aZ e m t=some ys:=by
 induction hnm with
 |refl=>exact h
 |step _ ih=>exact(uR e _).2 _ _ ih
theorem Mh {e:dL} {n m:Nat} {t:TA} {ys zs:List TA} (h:bA e n t=some ys) (h':bA e m t=some zs):ys=zs:=by
 have h1:=uS (Nat.le_max_left n m) h;have h2:=uS (Nat.le_max_right n m) h';rw[h1]at h2;exact Option.some.inj h2
theorem AV {e:dL}:∀(l:List TA),(∀x∈l,∃n ys,bA e n x=some ys)→∃n ys,aZ e n l=some ys
 |[],_=>⟨1,[],by rw[aZ]⟩
 |t::l,h=>by
  obtain⟨n,ys,h1⟩:=h t (by simp);obtain⟨m,zs,h2⟩:=AV l fun x hx=>h x (by simp[hx])
  refine⟨max n m+1,ys ++zs,?_⟩;rw[aZ,uS (Nat.le_max_left n m) h1,G7 (Nat.le_max_right n m) h2]
variable {by_ : List (Bytes × TA)}
theorem KT {nm:Bytes} (h:(by_.find? (·.1==nm)).isSome=true):nm∈by_.map (·.1):=by
 rw[List.find?_isSome]at h;obtain⟨p,hp,e⟩:=h;exact List.mem_map.2 ⟨p,hp,by simpa using e⟩
theorem Ry {l:List TA} {t:TA} {r:Bytes} (ht:t∈l) (hr:r∈iV t):r∈sU l:=by
 induction l with
 |nil=>cases ht
 |cons x l ih=>
  rw[sU,List.mem_append];rcases List.mem_cons.1 ht with rfl|ht
  ·exact .inl hr
  ·exact .inr (ih ht)
theorem G8 {e:dL} (hE:lq by_ e) (hnd:(by_.map (·.1)).Nodup):∀(k:Nat) (P:List Bytes),P.Nodup→(∀p∈P,p∈by_.map (·.1))→(by_.map (·.1)).length-P.length=k→∀(w:Nat) (t:TA),wtT t≤w→(∀p∈P,∀r∈iV t,rH by_ (dF by_ p) r)→∃n ys,bA e n t=some ys:=by
 intro k
 induction k using Nat.strongRecOn with
 |ind k ih=>
  intro P hP hsub hk w
  induction w with
  |zero=>intro t h;have:=BK t;omega
  |succ w ihw=>
   intro t hw hlead;obtain⟨tk,nm,ns,l⟩:=t;rw[iV]at hlead
   by_cases h8:tk=8
   ·rw[if_pos h8]at hlead
    by_cases hem:vQ e nm=true
    ·exact⟨1,[jP],by rw[bA,if_pos h8,if_pos hem]⟩
    ·have hne:¬nL by_ nm:=fun h=>hem ((mF hE hnd nm).2 h)
     have hdef:(by_.find? (·.1==nm)).isSome=true:=by
      cases hd:(by_.find? (·.1==nm)).isSome
      ·exact absurd (.inl hd) hne
      ·rfl
     have hkey:=KT hdef;have hnP:nm∉P:=fun hm=>hne (.inr (hlead nm hm nm (by simp)))
     have hP':(nm::P).Nodup:=List.nodup_cons.2 ⟨hnP,hP⟩
     have hlen:(nm::P).length≤(by_.map (·.1)).length:=hP'.length_le_of_subset fun p hp=>by
      rcases List.mem_cons.1 hp with rfl|hp
      ·exact hkey
      ·exact hsub p hp
     rw[List.length_cons]at hlen
     obtain⟨n,ys,h⟩:=ih (k-1) (by omega) (nm::P) hP' (fun p hp=>by
      rcases List.mem_cons.1 hp with rfl|hp
      ·exact hkey
      ·exact hsub p hp) (by rw[List.length_cons];omega) _ (dF by_ nm) (Nat.le_refl _) (fun p hp r hr=>by
      rcases List.mem_cons.1 hp with rfl|hp
      ·exact .here _ _ hr
      ·exact(hlead p hp nm (by simp)).trans (.here _ _ hr))
     refine⟨n+1,ys,?_⟩;rw[bA,if_pos h8,if_neg hem,vS,hE.hby];exact h
   ·rw[if_neg h8]at hlead
    by_cases h7:tk=7
    ·rw[if_pos h7]at hlead
     rw[wtT]at hw;obtain⟨n,ys,h⟩:=AV (e:=e) l fun x hx=>ihw x (by have:=iP hx;omega) fun p hp r hr=>hlead p hp r (Ry hx hr)
     exact⟨n+1,ys,by rw[bA,if_neg h8,if_pos h7];exact h⟩
    ·exact⟨1,[.mk tk nm ns l],by rw[bA,if_neg h8,if_neg h7]⟩
inductive Spr (by_:List (Bytes×TA)):TA→TA→Prop where
 |self (t:TA) (h7:t.kind≠7) (h8:t.kind≠8):Spr by_ t t
 |part (nm:Bytes) (ns:List Bytes) (l:List TA) (x y:TA) (hx:x∈l) (h:Spr by_ x y):Spr by_ (.mk 7 nm ns l) y
 |emp (nm:Bytes) (ns:List Bytes) (l:List TA) (h:nL by_ nm):Spr by_ (.mk 8 nm ns l) jP
 |ref (nm:Bytes) (ns:List Bytes) (l:List TA) (y:TA) (he:¬nL by_ nm) (h:Spr by_ (dF by_ nm) y):Spr by_ (.mk 8 nm ns l) y
theorem CR {e:dL} (hE:lq by_ e) (hnd:(by_.map (·.1)).Nodup):∀n,(∀t ys,bA e n t=some ys→∀y,y∈ys↔Spr by_ t y)∧(∀l ys,aZ e n l=some ys→∀y,y∈ys↔∃x∈l,Spr by_ x y)
 |0=>⟨fun t ys h=>(by rw[bA]at h;cases h),fun l ys h=>(by rw[aZ]at h;cases h)⟩
 |n+1=>by
  obtain⟨h1,h2⟩:=CR hE hnd n;refine⟨fun t ys h y=>?_,fun l ys h y=>?_⟩
  ·obtain⟨k,nm,ns,l⟩:=t
   rw[bA]at h;split at h
   ·rename_i h8
    subst h8;split at h
    ·rename_i he
     cases h;have he:=(mF hE hnd nm).1 he;rw[List.mem_singleton];refine⟨fun h=>by subst h;exact .emp nm ns l he,fun h=>?_⟩
     cases h with
     |self _ _ h8=>exact absurd rfl h8
     |emp=>rfl
     |ref _ _ _ _ hn=>exact absurd he hn
    ·rename_i he
     have he:¬nL by_ nm:=fun h=>he ((mF hE hnd nm).2 h)
     rw[vS,hE.hby]at h;rw[h1 _ _ h y];refine⟨fun h=>.ref nm ns l y he h,fun h=>?_⟩
     cases h with
     |self _ _ h8=>exact absurd rfl h8
     |emp _ _ _ hn=>exact absurd hn he
     |ref _ _ _ _ _ h=>exact h
   ·rename_i h8
    split at h
    ·rename_i h7
     subst h7;rw[h2 _ _ h y];refine⟨fun⟨x,hx,hs⟩=>.part nm ns l x y hx hs,fun h=>?_⟩
     cases h with
     |self _ h7 _=>exact absurd rfl h7
     |part _ _ _ x _ hx hs=>exact⟨x,hx,hs⟩
    ·rename_i h7
     cases h;rw[List.mem_singleton];refine⟨fun h=>by subst h;exact .self _ h7 h8,fun h=>?_⟩
     cases h with
     |self=>rfl
     |part=>exact absurd rfl h7
     |emp=>exact absurd rfl h8
     |ref=>exact absurd rfl h8
  ·cases l with
   |nil=>
    rw[aZ]at h;cases h;exact⟨fun h=>(by cases h),fun⟨x,hx,_⟩=>(by cases hx)⟩
   |cons t l=>
    rw[aZ]at h
    cases hx:bA e n t with
    |none=>rw[hx]at h;cases h
    |some xs=>
     cases hr:aZ e n l with
     |none=>rw[hx,hr]at h;cases h
     |some zs=>
      rw[hx,hr]at h;cases h;rw[List.mem_append,h1 _ _ hx y,h2 _ _ hr y];refine⟨fun h=>?_,fun⟨x,hx,hs⟩=>?_⟩
      ·rcases h with h|⟨x,hx,h⟩
       ·exact⟨t,by simp,h⟩
       ·exact⟨x,by simp[hx],h⟩
      ·rcases List.mem_cons.1 hx with rfl|hx
       ·exact .inl hs
       ·exact .inr ⟨x,hx,hs⟩
noncomputable def zP (e:dL) (t:TA):List TA:=open Classical in if h:∃n ys,bA e n t=some ys then h.choose_spec.choose else[]
theorem Oe {e:dL} {n:Nat} {t:TA} {ys:List TA} (h:bA e n t=some ys):zP e t=ys:=by
 have hx:∃n ys,bA e n t=some ys:=⟨n,ys,h⟩;unfold zP;rw[dif_pos hx];exact Mh hx.choose_spec.choose_spec h
theorem rX {e:dL} (hE:lq by_ e) (hnd:(by_.map (·.1)).Nodup) (t:TA):∃n,bA e n t=some (zP e t):=by
 obtain⟨n,ys,h⟩:=G8 hE hnd _ [] (by simp) (fun p hp=>by cases hp) rfl _ t (Nat.le_refl _) (fun p hp=>by cases hp);exact⟨n,by rw[Oe h];exact h⟩
theorem yG {e:dL} (hE:lq by_ e) (hnd:(by_.map (·.1)).Nodup) (t y:TA):y∈zP e t↔Spr by_ t y:=by
 obtain⟨n,h⟩:=rX hE hnd t;exact(CR hE hnd n).1 _ _ h y
theorem vF (hb:∀p∈by_,NT p.2) {nm:Bytes} (h:¬nL by_ nm):NT (dF by_ nm)∧∃p∈by_,dF by_ nm=p.2:=by
 unfold nL at h
 cases hf:by_.find? (·.1==nm)with
 |none=>exact absurd (.inl (by rw[hf];rfl)) h
 |some p=>
  have hp:=List.mem_of_find?_eq_some hf;have:dF by_ nm=p.2:=by unfold dF;rw[hf];rfl
  exact⟨by rw[this];exact hb p hp,p,hp,this⟩
theorem Spr.nt (hb:∀p∈by_,NT p.2) {t y:TA} (h:Spr by_ t y):NT t→NT y∧y.kind≠7∧y.kind≠8:=by
 induction h with
 |self t h7 h8=>exact fun ht=>⟨ht,h7,h8⟩
 |part nm ns l x y hx h ih=>exact fun ht=>ih (ht.parts x hx)
 |emp nm ns l h=>exact fun _=>⟨.dyn,by decide,by decide⟩
 |ref nm ns l y he h ih=>exact fun _=>ih (vF hb he).1
theorem Spr.some (hb:∀p∈by_,NT p.2) {e:dL} (hE:lq by_ e) (hnd:(by_.map (·.1)).Nodup):∀(n:Nat) (t:TA) (ys:List TA),NT t→bA e n t=Option.some ys→ys≠[]:=by
 intro n
 induction n using Nat.strongRecOn with
 |ind n ih=>
 intro t ys ht h
 cases n with
 |zero=>rw[bA]at h;cases h
 |succ n=>
  obtain⟨k,nm,ns,l⟩:=t;rw[bA]at h;split at h
  ·split at h
   ·cases h;simp
   ·rename_i he
    have he:¬nL by_ nm:=fun h=>he ((mF hE hnd nm).2 h)
    rw[vS,hE.hby]at h;exact ih n (Nat.lt_succ_self n) _ ys (vF hb he).1 h
  ·split at h
   ·rename_i h7
    subst h7;have hl:l≠[]∧∀x∈l,NT x:=by cases ht with|uni l h2 h=>exact⟨by rintro rfl;simp at h2,h⟩
    obtain⟨m,rfl⟩:∃m,n=m+1:=by cases n with
     |zero=>rw[aZ]at h;cases h
     |succ m=>exact⟨m,rfl⟩
    cases l with
    |nil=>exact absurd rfl hl.1
    |cons t l=>
     rw[aZ]at h
     cases hx:bA e m t with
     |none=>rw[hx]at h;cases h
     |some xs=>
      cases hr:aZ e m l with
      |none=>rw[hx,hr]at h;cases h
      |some zs=>
       rw[hx,hr]at h;cases h;have:=ih m (by omega) t xs (hl.2 t (by simp)) hx;intro e;exact this (List.append_eq_nil_iff.1 e).1
   ·cases h;simp
end Go.Ag
/- Package sub: under. -/
namespace Go.Ag
open Go
variable {T : Tab} {L : Lnk}
theorem RB {S:TrS} (hS:S.ok) (hl:S.len≤2^40) (p:Bytes×Bytes) {tk0:Tok} {H:Heap} {K:au→Heap→Prop} (hid:H[4]?=some (tobj S)) (h:K (tval (S.push p)) (H.set 4 (tobj (S.push p)))):lH 2 32 326 (tval S) (.lst [vw p] tk0) H K:=by
 obtain⟨v,xs,len⟩:=S;obtain⟨h1,h2⟩:=hS;dsimp only at h1 h2 hl
 cases v with
 |zero=>
  unfold lH;show dB 2 []∧_;refine⟨fun x hx=>(by cases hx),fun x hx=>?_,by simp,by simp,?_⟩
  ·simp only[List.mem_singleton]at hx;subst hx;exact⟨rfl,rfl⟩
  ·rw[if_neg (by simp)]
   exact .inr (.inr (.inl ⟨4,hid,h⟩))
 |succ v=>
  unfold lH;show dB 2 [vw p]∧_;refine⟨fun x hx=>?_,⟨rfl,rfl,by simp⟩,by simp;omega,by simp;omega,?_⟩
  ·simp only[List.mem_singleton]at hx;subst hx;exact⟨rfl,rfl⟩
  ·rw[hid]
   refine⟨⟨rfl,by rw[xR];exact h1,rfl,A9 xs⟩,v+2,by omega,?_⟩;have e1:tval (TrS.push ⟨v+1,xs,len⟩ p)=.vec 4 (v+2) 2 0 (len+1):=rfl
   have e2:tobj (TrS.push ⟨v+1,xs,len⟩ p)=.arr (v+2) ((lD xs).take len ++[vw p]) 326:=by
    show aU.arr (v+2) (lD (xs.take len ++[p])) 326=_;simp[lD]
   rw[e1,e2]at h;exact h
theorem Wm {rel:TrS→TA→TA→Option (Bool×TrS)} (hr:∀S a b r S',S.ok→rel S a b=some (r,S')→S'.ok) {S:TrS} {x y:TA} {r:Bool} {S':TrS} (hS:S.ok) (h:EN rel S x y=some (r,S')):S'.ok:=
 sO (P:=TrS.ok) _ (fun s p b s' _ hs he=>by
  split at he
  ·exact hr _ _ _ _ _ hs he
  ·cases he;exact hs) _ _ _ hS h
theorem VJ (tx:TA→Bytes) (loose:Bool) (rel:TrS→TA→TA→Option (Bool×TrS)) (S:TrS) (xk:Int) (xm:Bytes) (xs:List Bytes) (xl:List TA) (yk:Int) (ym:Bytes) (ys:List Bytes) (yl:List TA) {sx sy:Bytes} (hsx:tx (.mk xk xm xs xl)=sx) (hsy:tx (.mk yk ym ys yl)=sy):
  rM tx loose rel S (.mk xk xm xs xl) (.mk yk ym ys yl)=if xk=4∨yk=4 then some (loose||xk==yk,S)
   else if xk≠yk then some (false,S)
   else if xk≠5∧xk≠6 then some (true,S)
   else if 2^40≤S.len then none
   else if S.cur.contains (sx,sy)=true then some (true,S)
   else match(if xk=5 then EN rel (S.push (sx,sy)) (.mk xk xm xs xl) (.mk yk ym ys yl)else Ap rel (S.push (sx,sy)) (.mk xk xm xs xl) (.mk yk ym ys yl))with
    |none=>none
    |some (true,S')=>some (true,S')
    |some (false,S')=>if S.len≤S'.len then some (false,S'.cut S.len)else none:=by
 subst hsx hsy;rfl
theorem Jf (F:oN T) {e:dL} {loose:Bool} (W:JW T e) {rel:TrS→TA→TA→Option (Bool×TrS)} (hR:LK T e loose W.G rel) (WO:∀S a b r S',S.ok→rel S a b=some (r,S')→S'.ok) (a b x y:TA) (ha:W.G a) (hb:W.G b) (hx:x∈W.hd a) (hy:y∈W.hd b) (S:TrS) (r:Bool) (S':TrS) (hS:S.ok)
  (h:rM W.tx loose rel S x y=some (r,S')):bX T.L 239 [.ptr 3 0,x.av,y.av] (kY e loose S) (.bool r) (kY e loose S'):=by
 refine bX.of 0 rfl (.bool _) (mh e loose S') (aC.mono (Q:=fun r' H'=>∃J,r'=.ret (.bool r)∧H'=kY e loose S' ++J) ?_ fun r H' ⟨J,e1,e2⟩=>⟨_,_,J,e1,Weak.refl _,e2,rfl,fun i x y h1 h2=>by rw[h1]at h2;cases h2;exact bJ.refl x⟩);have htx:=W.text a ha x hx;have hty:=W.text b hb y hy;have hxs:=W.sub a ha x hx;have hys:=W.sub b hb y hy;have hxf:=W.fn a ha x hx;have hyf:=W.fn b hb y hy;have hxr:=W.rcd a ha x hx;have hyr:=W.rcd b hb y hy;have YB:=fun(h1:x.kind=5) (h2:y.kind=5) S r S' hS h=>Hy F hR x y hxs hys (hxr h1) ⟨(hyr h2).1,(hyr h2).2.2⟩ S r S' hS h
 obtain⟨sx,hsx⟩:∃sx,W.tx x=sx:=⟨_,rfl⟩;obtain⟨sy,hsy⟩:∃sy,W.tx y=sy:=⟨_,rfl⟩;rw[hsx]at htx;rw[hsy]at hty;obtain⟨xk,xm,xs,xl⟩:=x;obtain⟨yk,ym,ys,yl⟩:=y;rw[VJ _ _ _ _ _ _ _ _ _ _ _ _ hsx hsy]at h;simp only[TA.kind,TA.l,TA.names]at hxf hyf hxr hyr hxs hys YB;refine aG F.Xr (by simp[UG]) ?_;conv=>whnf
 by_cases h4:xk=4∨yk=4
 ·rw[if_pos h4]at h
  cases h;cases h5:(xk==4)
  ·have h6:(yk==4)=true:=by
    rcases h4 with h4|h4
    ·rw[h4]at h5;cases h5
    ·simpa using h4
   conv=>whnf
   rw[h6];conv=>whnf
   cases loose
   ·conv=>whnf
    exact⟨_,rfl,rfl⟩
   ·conv=>whnf
    exact⟨_,rfl,rfl⟩
  ·conv=>whnf
   cases loose
   ·conv=>whnf
    exact⟨_,rfl,rfl⟩
   ·conv=>whnf
    exact⟨_,rfl,rfl⟩
 ·rw[if_neg h4]at h
  have h5:(xk==4)=false:=by simpa using fun e=>h4 (.inl e)
  have h6:(yk==4)=false:=by simpa using fun e=>h4 (.inr e)
  rw[h5];conv=>whnf
  rw[h6];conv=>whnf
  by_cases hk:xk=yk
  ·rw[if_neg (by simpa using hk)]at h
   have hk2:(xk !=yk)=false:=by simpa using hk
   rw[hk2];conv=>whnf
   by_cases h7:xk≠5∧xk≠6
   ·rw[if_pos h7]at h
    cases h;have h8:(xk !=5)=true:=by simpa using h7.1
    have h9:(xk !=6)=true:=by simpa using h7.2
    rw[h8];conv=>whnf
    rw[h9];conv=>whnf
    exact⟨_,rfl,rfl⟩
   ·rw[if_neg h7]at h
    subst hk
    have hcon:=fun hl=>yQ F.QO F.KD (.map (cu e.by_ 0) e.by_.length) (.map (gF e.empty 0) e.empty.length) (.cells [.map 0,.map 1] 234) (.cells [.ptr 2 0,.bool loose,tval S] 263)
     ⟨dY 5 _ _,fA 5 _ _,dH ⟨.map _ (by decide:0<5),.map _ (by decide:1<5),trivial⟩,dH ⟨.ptr _ _ (by decide:2<5),.bool _,qp S,trivial⟩,trivial⟩ S hS hl (sx,sy)
    have hlv:∀x∈[tval S,vw (sx,sy)],Low 5 x:=gq.at ⟨qp S,Du 5 _,trivial⟩;have h56:xk=5∨xk=6:=by omega
    by_cases Tp:2^40≤S.len
    ·rw[if_pos Tp]at h;cases h
    rw[if_neg Tp]at h;have Tp:S.len≤2^40:=by omega
    have hcon:=hcon Tp;have happ:=fun(H:Heap) (tk0:Tok) (K:au→Heap→Prop)=>RB hS Tp (sx,sy) (tk0:=tk0) (H:=H) (K:=K)
    have QI:=TrS.BU hS (sx,sy);have hlJ:∀S,∀o∈kY e loose S,bI 5 o:=mh e loose;obtain⟨m,hm⟩:∃m,S.len=m:=⟨_,rfl⟩;obtain⟨bc,hbc⟩:∃bc,S.cur.contains (sx,sy)=bc:=⟨_,rfl⟩;rw[hbc]at h hcon;rw[hm]at h;rcases h56 with rfl|rfl
    ·obtain⟨sv,sxs,EL⟩:=S
     have h00:sv=0→EL=0:=hS.2;have hmm:m=EL:=hm.symm;cases sv
     case' zero=>
      obtain rfl:=h00 rfl
     all_goals
      conv=>whnf
      refine htx.soft ?_;conv=>whnf
      refine hty.soft ?_;conv=>whnf
      refine hcon.to rfl hlv (hlJ _) (.bool _) (hlJ _) [bf (.mk 5 xm xs xl),bf (.mk 5 ym ys yl),.cells [.str sx,.str sy] 326] rfl ?_;conv=>whnf
      cases bc
      case' true=>
       rw[if_pos rfl]at h;cases h;conv=>whnf
       exact⟨_,rfl,rfl⟩
      rw[if_neg (by simp),if_pos rfl]at h;conv=>whnf
      refine happ _ _ _ rfl ?_;conv=>whnf
      cases hq:EN rel (TrS.push _ (sx,sy)) (.mk 5 xm xs xl) (.mk 5 ym ys yl)
      case' none=>rw[hq]at h;cases h
      rename_i q;obtain⟨c,S2⟩:=q;rw[hq]at h;have hok2:=Wm WO QI hq;refine(YB rfl rfl _ _ _ QI hq).to rfl (gq.at ⟨.ptr _ _ (show 3<5 by decide),aQ 5 (.mk 5 xm xs xl),aQ 5 (.mk 5 ym ys yl),trivial⟩) (hlJ _) (.bool _) (hlJ _) [bf (.mk 5 xm xs xl),bf (.mk 5 ym ys yl),.cells [.str sx,.str sy] 326] rfl ?_;cases c
      ·have h:(if m≤S2.len then some (false,S2.cut m)else none)=some (r,S'):=h
       by_cases hle:m≤S2.len
       ·rw[if_pos hle]at h
        cases h;obtain⟨v2,xs2,len2⟩:=S2;have hle:m≤len2:=hle;have h02:v2=0→len2=0:=hok2.2;cases v2
        ·obtain rfl:=h02 rfl
         obtain rfl:m=0:=by omega
         try subst hmm
         conv=>whnf
         refine⟨by simp,by simp,fun x hx=>(by cases hx),?_⟩;conv=>whnf
         exact⟨_,rfl,rfl⟩
        ·subst hmm
         conv=>whnf
         refine⟨⟨Nat.zero_le _,by first|(simp;done)|(simp;omega),.inl rfl,rfl⟩,?_⟩;conv=>whnf
         exact⟨_,rfl,rfl⟩
       ·rw[if_neg hle]at h;cases h
      ·cases h
       conv=>whnf
       exact⟨_,rfl,rfl⟩
    ·obtain⟨x0,x1,rfl⟩:=hxf rfl
     obtain⟨y0,y1,rfl⟩:=hyf rfl;have hGx0:=hxs x0 (by simp);have hGx1:=hxs x1 (by simp);have hGy0:=hys y0 (by simp);have hGy1:=hys y1 (by simp)
     have hfun:∀S1,Ap rel S1 (.mk 6 xm xs [x0,x1]) (.mk 6 ym ys [y0,y1])=match rel S1 y0 x0 with
      |none=>none
      |some (false,S')=>some (false,S')
      |some (true,S')=>rel S' x1 y1:=fun S1=>rfl
     rw[if_neg (show¬(6:Int)=5 by decide),hfun]at h;have hcallR:=fun S a b r S' hS ha hb h=>hR S a b r S' hS ha hb h
     have hgx0:(TA.avs [x0,x1])[Int.toNat 0]?=some x0.av:=rfl;have hgx1:(TA.avs [x0,x1])[Int.toNat 1]?=some x1.av:=rfl;have hgy0:(TA.avs [y0,y1])[Int.toNat 0]?=some y0.av:=rfl;have hgy1:(TA.avs [y0,y1])[Int.toNat 1]?=some y1.av:=rfl;have hl0:=BZ y0 x0;have hl1:=BZ x1 y1;have hcx:bf (.mk 6 xm xs [x0,x1])=.cells [.int .i64 6,.str xm,.lst (aO xs) .none,.lst [x0.av,x1.av] .none] 175:=rfl;have hcy:bf (.mk 6 ym ys [y0,y1])=.cells [.int .i64 6,.str ym,.lst (aO ys) .none,.lst [y0.av,y1.av] .none] 175:=rfl;obtain⟨sv,sxs,EL⟩:=S;have h00:sv=0→EL=0:=hS.2;have hmm:m=EL:=hm.symm;cases sv
     case' zero=>
      obtain rfl:=h00 rfl
     all_goals
      conv=>whnf
      refine htx.soft ?_;conv=>whnf
      refine hty.soft ?_;conv=>whnf
      refine hcon.to rfl hlv (hlJ _) (.bool _) (hlJ _) [bf (.mk 6 xm xs [x0,x1]),bf (.mk 6 ym ys [y0,y1]),.cells [.str sx,.str sy] 326] rfl ?_;conv=>whnf
      cases bc
      case' true=>
       rw[if_pos rfl]at h;cases h;conv=>whnf
       exact⟨_,rfl,rfl⟩
      rw[if_neg (by simp)]at h;conv=>whnf
      refine happ _ _ _ rfl ?_;conv=>whnf
      cases hq:rel (TrS.push _ (sx,sy)) y0 x0
      case' none=>rw[hq]at h;cases h
      rename_i q;obtain⟨c,S2⟩:=q;rw[hq]at h;obtain⟨hok2,hc⟩:=hR _ _ _ _ _ QI hGy0 hGx0 hq;obtain⟨y0k,y0m,y0s,y0l⟩:=y0;obtain⟨x0k,x0m,x0s,x0l⟩:=x0;refine⟨by decide,rfl,?_⟩;conv=>whnf
      refine⟨by decide,rfl,?_⟩;conv=>whnf
      refine hc.to rfl hl0 (hlJ _) (.bool _) (hlJ _) [bf (.mk 6 xm xs [.mk x0k x0m x0s x0l,x1]),bf (.mk 6 ym ys [.mk y0k y0m y0s y0l,y1]),.cells [.str sx,.str sy] 326] rfl ?_;cases c
      case' false=>
       have h:(if m≤S2.len then some (false,S2.cut m)else none)=some (r,S'):=h
       by_cases hle:m≤S2.len
       ·rw[if_pos hle]at h
        cases h;obtain⟨v2,xs2,len2⟩:=S2;have hle:m≤len2:=hle;have h02:v2=0→len2=0:=hok2.2;cases v2
        ·obtain rfl:=h02 rfl
         obtain rfl:m=0:=by omega
         try subst hmm
         conv=>whnf
         refine⟨by simp,by simp,fun x hx=>(by cases hx),?_⟩;conv=>whnf
         exact⟨_,rfl,rfl⟩
        ·subst hmm
         conv=>whnf
         refine⟨⟨Nat.zero_le _,by first|(simp;done)|(simp;omega),.inl rfl,rfl⟩,?_⟩;conv=>whnf
         exact⟨_,rfl,rfl⟩
       ·rw[if_neg hle]at h;cases h
      cases hq2:rel S2 x1 y1
      case' none=>
       dsimp only at h;rw[hq2]at h;cases h
      rename_i q2;obtain⟨c2,S3⟩:=q2;dsimp only at h;rw[hq2]at h;obtain⟨hok3,hc3⟩:=hR _ _ _ _ _ hok2 hGx1 hGy1 hq2;obtain⟨y1k,y1m,y1s,y1l⟩:=y1;obtain⟨x1k,x1m,x1s,x1l⟩:=x1;conv=>whnf
      refine⟨by decide,rfl,?_⟩;conv=>whnf
      refine⟨by decide,rfl,?_⟩;conv=>whnf
      refine hc3.to rfl hl1 (hlJ _) (.bool _) (hlJ _) [bf (.mk 6 xm xs [.mk x0k x0m x0s x0l,.mk x1k x1m x1s x1l]),bf (.mk 6 ym ys [.mk y0k y0m y0s y0l,.mk y1k y1m y1s y1l]),.cells [.str sx,.str sy] 326] rfl ?_;cases c2
      case' false=>
       have h:(if m≤S3.len then some (false,S3.cut m)else none)=some (r,S'):=h
       by_cases hle:m≤S3.len
       ·rw[if_pos hle]at h
        cases h;obtain⟨v2,xs2,len2⟩:=S3;have hle:m≤len2:=hle;have h02:v2=0→len2=0:=hok3.2;cases v2
        ·obtain rfl:=h02 rfl
         obtain rfl:m=0:=by omega
         try subst hmm
         conv=>whnf
         refine⟨by simp,by simp,fun x hx=>(by cases hx),?_⟩;conv=>whnf
         exact⟨_,rfl,rfl⟩
        ·subst hmm
         conv=>whnf
         refine⟨⟨Nat.zero_le _,by first|(simp;done)|(simp;omega),.inl rfl,rfl⟩,?_⟩;conv=>whnf
         exact⟨_,rfl,rfl⟩
       ·rw[if_neg hle]at h;cases h
      cases h;conv=>whnf
      exact⟨_,rfl,rfl⟩
  ·rw[if_pos hk]at h
   cases h;have hk2:(xk !=yk)=true:=by simpa using hk
   rw[hk2];conv=>whnf
   exact⟨_,rfl,rfl⟩
end Go.Ag
/- Package sub: related; Sub, Fits, Equal. -/
namespace Go.Ag
open Go
variable {T : Tab} {L : Lnk}
def rB (e:dL) (loose:Bool) (a b x:TA) (S:TrS):Nat→aU
 |0=>.map (cu e.by_ 0) e.by_.length
 |1=>.map (gF e.empty 0) e.empty.length
 |2=>.cells [.map 0,.map 1] 234
 |3=>.cells [.ptr 2 0,.bool loose,tval S] 263
 |4=>tobj S
 |5=>.cells [.ptr 3 0] 260
 |6=>bf a
 |7=>bf b
 |_=>bf x
def C9 (e:dL) (loose:Bool) (a b x:TA) (S:TrS):Heap:=[rB e loose a b x S 0,rB e loose a b x S 1,rB e loose a b x S 2,rB e loose a b x S 3,rB e loose a b x S 4,rB e loose a b x S 5,rB e loose a b x S 6,rB e loose a b x S 7,rB e loose a b x S 8]
theorem wC (n:Nat) (hn:9≤n) (e:dL) (loose:Bool) (a b x:TA) (S:TrS):eX n (C9 e loose a b x S):=
  ⟨dY n _ _,fA n _ _,dH ⟨.map _ (by omega),.map _ (by omega),trivial⟩,dH ⟨.ptr _ _ (by omega),.bool _,(qp S).mono (by omega),trivial⟩,sI n S,dH ⟨.ptr _ _ (by omega),trivial⟩,
   (show bI n (bf a)from aI (Nat.zero_le _) (cK _)),(show bI n (bf b)from aI (Nat.zero_le _) (cK _)),(show bI n (bf x)from aI (Nat.zero_le _) (cK _)),trivial⟩
open Classical in
noncomputable def Yp (W:List TA) (f:TrS→TA→Option (Bool×TrS)) (S:TrS) (y:TA):Option (Bool×TrS):=if S.ok∧y∈W then f S y else none
theorem Lx {W:List TA} {f:TrS→TA→Option (Bool×TrS)} (hf:∀S y r S',S.ok→f S y=some (r,S')→S'.ok):∀(l:List TA),(∀y∈l,y∈W)→∀S r,S.ok→qD f S l=some r→qD (Yp W f) S l=some r
 |[],_,S,r,hS,h=>h
 |x::l,hl,S,r,hS,h=>by
  rw[qD]at h⊢;rw[Yp,if_pos ⟨hS,hl x (by simp)⟩]
  cases hq:f S x with
  |none=>rw[hq]at h;cases h
  |some q=>
   obtain⟨c,s2⟩:=q;rw[hq]at h;have h2:=hf _ _ _ _ hS hq;cases c
   ·exact Lx hf l (fun y hy=>hl y (by simp[hy])) s2 r h2 h
   ·exact h
theorem Qi (QU:T.has 238 Pe) {e:dL} {loose:Bool} {a b x:TA} {S S':TrS} {r:Bool} {y:TA} (h:bX T.L 239 [.ptr 3 0,x.av,y.av] (kY e loose S) (.bool r) (kY e loose S')):
  bX T.L 238 [y.av,.ptr 5 0,.ptr 8 0] (C9 e loose a b x S) (.bool r) (C9 e loose a b x S'):=by
 refine bX.of 0 rfl (.bool _) (wC 9 (Nat.le_refl 9) e loose a b x S').at (aC.mono (Q:=fun r' H'=>∃J,r'=.ret (.bool r)∧H'=C9 e loose a b x S' ++J) ?_ fun r H' ⟨J,e1,e2⟩=>⟨_,_,J,e1,Weak.refl _,e2,rfl,fun i x y h1 h2=>by rw[h1]at h2;cases h2;exact bJ.refl x⟩);refine aG QU (by simp[Pe]) ?_;have hl:=BZ x y;obtain⟨yk,ym,ys,yl⟩:=y;obtain⟨xk,xm,xs,xl⟩:=x;conv=>whnf
 refine h.to rfl hl (mh _ _ _) (.bool _) (mh _ _ _) [.cells [.ptr 3 0] 260,bf a,bf b,bf (.mk xk xm xs xl),bf (.mk yk ym ys yl)] rfl ?_;conv=>whnf
 exact⟨_,rfl,rfl⟩
theorem Hw (F:oN T) {e:dL} {loose:Bool} (W:JW T e) {rel:TrS→TA→TA→Option (Bool×TrS)} (hR:LK T e loose W.G rel) (WO:∀S a b r S',S.ok→rel S a b=some (r,S')→S'.ok):
  LK T e loose W.G (fun S a b=>iq (fun S x=>qD (fun S y=>rM W.tx loose rel S x y) S (W.hd b)) S (W.hd a)):=by
 intro S a b r S' hS ha hb h;have hund:=fun x (hx:x∈W.hd a) y (hy:y∈W.hd b) S r S' hS h=>Jf F (loose:=loose) W hR WO a b x y ha hb hx hy S r S' hS h
 have huok:∀x S y r S',TrS.ok S→rM W.tx loose rel S x y=some (r,S')→S'.ok:=fun x S y r S' hS h=>NW WO S x y r S' hS h
 have hfok:∀x,∀S r S',TrS.ok S→qD (fun S y=>rM W.tx loose rel S x y) S (W.hd b)=some (r,S')→S'.ok:=fun x S r S' hS h=>
  EB (P:=TrS.ok) _ (fun s2 y b2 s2' _ hs2 he2=>huok x s2 y b2 s2' hs2 he2) _ _ _ hS h
 refine⟨sO (P:=TrS.ok) _ (fun s x b' s' _ hs he=>hfok x s b' s' hs he) _ _ _ hS h,?_⟩;have hHa:=W.heads a ha;have hHb:=W.heads b hb;have hla:=W.hlen a ha;have hlb:=W.hlen b hb
 have hcont:∀x (hx:x∈W.hd a) S r S',TrS.ok S→qD (fun S y=>rM W.tx loose rel S x y) S (W.hd b)=some (r,S')→bX T.L 212 [.lst (TA.avs (W.hd b)) .none,.fn (.func 238) [] [.ptr 5 0,.ptr 8 0]] (C9 e loose a b x S) (.bool r) (C9 e loose a b x S'):=fun x hx S r S' hS h=>
  zw F.QW F.KG (BB:=C9 e loose a b x) (p:=rB e loose a b x) (f:=Yp (W.hd b) fun S y=>rM W.tx loose rel S x y) ⟨fun s=>rfl,fun s=>(wC 9 (Nat.le_refl 9) e loose a b x s).at,fun s y c s' hq=>by
   unfold Yp at hq;split at hq
   ·rename_i hc
    exact Qi F.QU (hund x hx y hc.2 s c s' hc.1 hq)
   ·cases hq⟩ (W.hd b) hlb S r S' (Lx (fun S y r S' hS h=>huok x S y r S' hS h) (W.hd b) (fun y hy=>hy) S _ hS h)
 replace h:iq (fun S x=>qD (fun S y=>rM W.tx loose rel S x y) S (W.hd b)) S (W.hd a)=some (r,S'):=h;generalize W.hd a=A at*;generalize W.hd b=B at*;refine bX.of 0 rfl (.bool _) (mh e loose S') (aC.mono (Q:=fun r' H'=>∃J,r'=.ret (.bool r)∧H'=kY e loose S' ++J) ?_ fun r H' ⟨J,e1,e2⟩=>⟨_,_,J,e1,Weak.refl _,e2,rfl,fun i x y h1 h2=>by rw[h1]at h2;cases h2;exact bJ.refl x⟩);refine aG F.XG (by simp[U0]) ?_;obtain⟨ak,am,abJ,al⟩:=a;obtain⟨bk,bm,bs,bl⟩:=b;conv=>whnf
 refine hHb.to (dD (aQ _ _)) (.lst _ _ trivial (aY 3 B)) [.cells [.ptr 2 0,.bool loose,tval S] 263,tobj S,.cells [.ptr 3 0] 260,bf (.mk ak am abJ al),bf (.mk bk bm bs bl)] rfl ?_;conv=>whnf
 refine hHa.to (dD (aQ _ _)) (.lst _ _ trivial (aY 3 A)) [.cells [.ptr 2 0,.bool loose,tval S] 263,tobj S,.cells [.ptr 3 0] 260,bf (.mk ak am abJ al),bf (.mk bk bm bs bl)] rfl ?_;conv=>whnf
 intro I hI hG
 have key:∀(d j:Nat) (S1:TrS) (e':Env),A.length-j=d→j≤A.length→S1.ok→iq (fun S x=>qD (fun S y=>rM W.tx loose rel S x y) S B) S1 (A.drop j)=some (r,S')→
   I (gB e' [(3,.ptr 5 0),(7,.lst (TA.avs B) .none),(21,.lst (TA.avs A) .none),(22,.int .i64 A.length),(23,.int .i64 j)]) (kY e loose S1 ++[.cells [.ptr 3 0] 260,bf (.mk ak am abJ al),bf (.mk bk bm bs bl)]):=by
  intro d
  induction d with
  |zero=>
   intro j S1 e' hd hj hok hf;have hjl:j=A.length:=by omega
   rw[hjl,List.drop_length,iq]at hf;cases hf;apply hI;conv=>whnf
   rw[bU (by omega)];conv=>whnf
   exact⟨_,rfl,rfl⟩
  |succ d ihd=>
   intro j S1 e' hd hj hok hf;have hjl:j<A.length:=by omega
   rw[List.drop_eq_getElem_cons hjl,iq]at hf;have hget:=mP hjl;have hmem:=List.getElem_mem hjl;have hnext:=fun S2 e'=>ihd (j+1) S2 e' (by omega) hjl
   generalize A[j]=x at hget hf hmem
   have hlJ:∀S,eX 8 (kY e loose S ++[.cells [.ptr 3 0] 260,bf (.mk ak am abJ al),bf (.mk bk bm bs bl)]):=fun S=>
    ⟨dY 8 _ _,fA 8 _ _,dH ⟨.map _ (by decide:0<8),.map _ (by decide:1<8),trivial⟩,dH ⟨.ptr _ _ (by decide:2<8),.bool _,(qp S).mono (by decide),trivial⟩,sI 8 S,dH ⟨.ptr _ _ (by decide:3<8),trivial⟩,aI (Nat.zero_le _) (cK _),aI (Nat.zero_le _) (cK _),trivial⟩
   have hj1:j+1<9223372036854775808:=by omega
   cases hq:qD (fun S y=>rM W.tx loose rel S x y) S1 B with
   |none=>rw[hq]at hf;cases hf
   |some q=>
    obtain⟨c,S2⟩:=q;rw[hq]at hf;have hok2:=hfok x S1 c S2 hok hq;have hc:=hcont x hmem S1 c S2 hok hq;obtain⟨xk,xm,xs,xl⟩:=x;apply hI;conv=>whnf
    rw[dz hjl];conv=>whnf
    refine step_elem (Int.natCast_nonneg _) hget rfl ?_;conv=>whnf
    refine hc.to rfl (gq.at ⟨.lst _ _ trivial (aY _ B),.fn _ _ _ fK (gq.at ⟨.ptr _ _ (show 5<9 by decide),.ptr _ _ (show 8<9 by decide),trivial⟩),trivial⟩) (wC 9 (Nat.le_refl 9) _ _ _ _ _ _).at (.bool _) (wC 9 (Nat.le_refl 9) _ _ _ _ _ _).at [] rfl ?_;cases c
    ·cases hf
     conv=>whnf
     exact⟨_,rfl,rfl⟩
    ·have hf:iq (fun S x=>qD (fun S y=>rM W.tx loose rel S x y) S B) S2 (A.drop (j+1))=some (r,S'):=hf
     conv=>whnf
     exact hG.keep [(3,.ptr 5 0),(7,.lst (TA.avs B) .none),(21,.lst (TA.avs A) .none),(22,.int .i64 A.length),(23,.int .i64 (j+1:Nat))] (kY e loose S2 ++[.cells [.ptr 3 0] 260,bf (.mk ak am abJ al),bf (.mk bk bm bs bl)]) (Nat.le_refl 8) rfl ⟨rfl,rfl,rfl,rfl,add1 hj1,trivial⟩
      ⟨.ptr _ _ (by decide:5<8),.lst _ _ trivial (aY 8 B),.lst _ _ trivial (aY 8 A),.int _ _,.int _ _,trivial⟩ (hlJ S2) (hnext _ _ hok2 hf)
 exact inv_of [(3,.ptr 5 0),(7,.lst (TA.avs B) .none),(21,.lst (TA.avs A) .none),(22,.int .i64 A.length),(23,.int .i64 0)] ⟨rfl,rfl,rfl,by show au.int .i64 ((TA.avs A).length:Nat)=_;rw[bY],rfl,trivial⟩ (key A.length 0 S _ rfl (Nat.zero_le _) hS h)
theorem zU (F:oN T) {e:dL} {loose:Bool} (W:JW T e):∀n,LK T e loose W.G (qJ W.hd W.tx loose n)
 |0=>fun S a b r S' _ _ _ h=>by rw[qJ]at h;cases h
 |n+1=>fun S a b r S' hS ha hb h=>Hw F W (zU F W n) (fun S a b r S' hS h=>Oi n S a b r S' hS h) S a b r S' hS ha hb (by rw[qJ]at h;exact h)
def tr0 :TrS:=⟨0,[],0⟩
theorem RX :tr0.ok:=⟨Nat.le_refl _,fun _=>rfl⟩
theorem JK {e:dL} {loose:Bool} {a b:TA} {r:Bool} {S':TrS} (h:bX T.L 202 [.ptr 3 0,a.av,b.av] (kY e loose tr0) (.bool r) (kY e loose S')) (oa ob:aU):
  aC T.L 202 [.ptr 6 0,a.av,b.av] (iU e ++[.dead,oa,ob,.cells [.ptr 2 0,.bool loose,.lst [] .nil] 263]) fun r' H'=>r'=.ret (.bool r)∧∃J,H'=iU e ++J:=by
 have hρ:∀i,i<3→nameOf [0,1,2,6,3] 7 i=i:=fun i hi=>by
  match i,hi with
  |0,_=>rfl
  |1,_=>rfl
  |2,_=>rfl
  |i+3,h=>omega
 have hlo:=sJ e;have q:∀o∈iU e,gV (nameOf [0,1,2,6,3] 7) o=o:=fun o ho=>jm hρ (hlo o ho)
 have q0:=q (.map (cu e.by_ 0) e.by_.length) (by simp[iU]);have q1:=q (.map (gF e.empty 0) e.empty.length) (by simp[iU]);have q2:=q (.cells [.map 0,.map 1] 234) (by simp[iU]);have q3:gV (nameOf [0,1,2,6,3] 7) (.cells [.ptr 2 0,.bool loose,.lst [] .nil] 263)=.cells [.ptr 2 0,.bool loose,.lst [] .nil] 263:=jm hρ (dH ⟨.ptr _ _ (by decide:2<3),.bool _,.lst _ _ trivial fK,trivial⟩)
 have hp:Part (iU e ++[.dead,oa,ob,.cells [.ptr 2 0,.bool loose,.lst [] .nil] 263]) [0,1,2,6,3] (kY e loose tr0):=by
  refine⟨by decide,rfl,fun k i o hk ho=>?_⟩;show(iU e ++[.dead,oa,ob,.cells [.ptr 2 0,.bool loose,.lst [] .nil] 263])[i]?=some (gV (nameOf [0,1,2,6,3] 7) o)
  match k,hk,ho with
  |0,hk,ho=>cases hk;cases ho;rw[q0];rfl
  |1,hk,ho=>cases hk;cases ho;rw[q1];rfl
  |2,hk,ho=>cases hk;cases ho;rw[q2];rfl
  |3,hk,ho=>
   cases hk;have:o=.cells [.ptr 2 0,.bool loose,.lst [] .nil] 263:=(Option.some.inj ho).symm;subst this;rw[q3];rfl
  |4,hk,ho=>
   cases hk;have:o=.dead:=(Option.some.inj ho).symm;subst this;rfl
  |k+5,hk,ho=>cases hk
 have hf:=aC.mY h [0,1,2,6,3] hp (.inr fun r H' hq=>by rw[hq.2];exact Nat.le_refl 5)
 have hargs:[au.ptr 3 0,a.av,b.av].map (ren (nameOf [0,1,2,6,3] 7))=[.ptr 6 0,a.av,b.av]:=by
  rw[List.map_cons,List.map_cons,List.map_cons,iR hρ (aQ 3 a),iR hρ (aQ 3 b)];rfl
 rw[show [au.ptr 3 0,a.av,b.av].map (ren (nameOf [0,1,2,6,3] (iU e ++[.dead,oa,ob,.cells [.ptr 2 0,.bool loose,.lst [] .nil] 263]).length))=[.ptr 6 0,a.av,b.av]from hargs]at hf;refine hf.mono fun r' H' ⟨r1,H1',⟨e1,e2⟩,_,e3,e4⟩=>?_
 subst e1 e2;refine⟨e3,[gV (nameOf [0,1,2,6,3] 7) (tobj S'),oa,ob,gV (nameOf [0,1,2,6,3] 7) (.cells [.ptr 2 0,.bool loose,tval S'] 263)],e4.trans ?_⟩;show [gV (nameOf [0,1,2,6,3] 7) (.map (cu e.by_ 0) e.by_.length),gV (nameOf [0,1,2,6,3] 7) (.map (gF e.empty 0) e.empty.length),gV (nameOf [0,1,2,6,3] 7) (.cells [.map 0,.map 1] 234),gV (nameOf [0,1,2,6,3] 7) (tobj S'),oa,ob,gV (nameOf [0,1,2,6,3] 7) (.cells [.ptr 2 0,.bool loose,tval S'] 263)]=_;rw[q0,q1,q2];rfl
theorem Vx (F:oN T) {e:dL} (W:JW T e) (a b:TA) (ha:W.G a) (hb:W.G b) (n:Nat) (r:Bool) (S':TrS) (h:qJ W.hd W.tx false n tr0 a b=some (r,S')):EK T.L 162 [a.av,b.av] e (.bool r):=by
 obtain⟨_,hr⟩:=zU F W n tr0 a b r S' RX ha hb h;have hc:=JK hr (bf a) (bf b);obtain⟨ak,am,abJ,al⟩:=a;obtain⟨bk,bm,bs,bl⟩:=b;refine EK.of 1 (.bool _) (aG F.XU (by simp[Ve]) ?_);conv=>whnf
 refine hc.mono fun r' H' ⟨e1,J,e2⟩=>?_
 subst e1 e2;conv=>whnf
 exact⟨_,_,rfl,Weak.refl _,rfl⟩
theorem RJ (F:oN T) {e:dL} (W:JW T e) (a b:TA) (ha:W.G a) (hb:W.G b) (n:Nat) (r:Bool) (S':TrS) (h:qJ W.hd W.tx true n tr0 a b=some (r,S')):EK T.L 163 [a.av,b.av] e (.bool r):=by
 obtain⟨_,hr⟩:=zU F W n tr0 a b r S' RX ha hb h;have hc:=JK hr (bf a) (bf b);obtain⟨ak,am,abJ,al⟩:=a;obtain⟨bk,bm,bs,bl⟩:=b;refine EK.of 1 (.bool _) (aG F.XT (by simp[Vd]) ?_);conv=>whnf
 refine hc.mono fun r' H' ⟨e1,J,e2⟩=>?_
 subst e1 e2;conv=>whnf
 exact⟨_,_,rfl,Weak.refl _,rfl⟩
end Go.Ag
/- A judge over good definitions and types answers as the greatest sound relation does. -/
namespace Go.Ag
open Go
structure iW (by_:List (Bytes×TA)) (e:dL) (C:List TA):Prop where
 ok:lq by_ e
 nodup:(by_.map (·.1)).Nodup
 mem:∀p∈by_,p.2∈C
 nt:∀t∈C,NT t
 cl:∀t∈C,∀x∈t.l,x∈C
 wt:∀t∈C,wtT t≤2^30
 fin:C.length≤2^19
 EL:∀t∈C,(zP e t).length≤2^30
def GC' (C:List TA) (t:TA):Prop:=GT t∧wtT t≤2^30∧aN t∈C
noncomputable def hdE (e:dL) (t:TA):List TA:=rz (zP e (aN t))
def txE (h:TA):Bytes:=prT (aN h) 0
variable {by_ : List (Bytes × TA)} {e : dL} {C : List TA}
theorem iW.ZL (W:iW by_ e C):∀p∈by_,NT p.2:=fun p hp=>W.nt _ (W.mem p hp)
theorem iW.spr (W:iW by_ e C) {t y:TA} (h:Spr by_ t y):t∈C→y=jP∨y∈C:=by
 induction h with
 |self t h7 h8=>exact fun ht=>.inr ht
 |part nm ns l x y hx h ih=>exact fun ht=>ih (W.cl _ ht x hx)
 |emp nm ns l h=>exact fun _=>.inl rfl
 |ref nm ns l y he h ih=>
  obtain⟨_,p,hp,h2⟩:=vF W.ZL he;exact fun _=>ih (by rw[h2];exact W.mem p hp)
theorem iW.some (W:iW by_ e C) (t:TA) (ht:t∈C):∃n,bA e n t=some (zP e t)∧zP e t≠[]∧∀y∈zP e t,NT y∧y.kind≠7∧y.kind≠8:=by
 obtain⟨n,h⟩:=rX W.ok W.nodup t;exact⟨n,h,Spr.some W.ZL W.ok W.nodup n t _ (W.nt t ht) h,fun y hy=>((yG W.ok W.nodup t y).1 hy).nt W.ZL (W.nt t ht)⟩
theorem iW.head (W:iW by_ e C) {t h:TA} (ht:GC' C t) (hh:h∈hdE e t):h=jP∨(h∈C∧h.kind≠7∧h.kind≠8):=by
 rcases Ky hh with h|h
 ·exact .inl h
 ·obtain⟨_,_,_,h3⟩:=W.some _ ht.2.2
  rcases W.spr ((yG W.ok W.nodup _ _).1 h) ht.2.2 with h'|h'
  ·exact .inl h'
  ·exact .inr ⟨h',(h3 _ h).2⟩
theorem iW.vJ (W:iW by_ e C) {t h:TA} (ht:GC' C t) (hh:h∈hdE e t):NT h∧wtT h≤2^30:=by
 rcases W.head ht hh with rfl|h
 ·exact⟨.dyn,by decide⟩
 ·exact⟨W.nt _ h.1,W.wt _ h.1⟩
theorem iW.heads (W:iW by_ e C):kX (GC' C) (hdE e)where
 sub:=fun t ht h hh x hx=>by
  rcases W.head ht hh with rfl|h'
  ·cases hx
  ·have hm:=W.cl _ h'.1 x hx
   exact⟨(W.nt x hm).gt,W.wt x hm,by rw[iF (W.nt x hm)];exact hm⟩
 fn:=fun t ht h hh h6=>by
  have:=(W.vJ ht hh).1;cases this<;>first|(cases h6;done)|exact⟨_,_,rfl⟩
 rcd:=fun t ht h hh h5=>by
  have:=(W.vJ ht hh).1;cases this<;>first|(cases h5;done)|skip
  rename_i ns l hs hl hn h;exact⟨hl,hs⟩
theorem iW.inj (W:iW by_ e C):∀a b x y,GC' C a→GC' C b→x∈hdE e a→y∈hdE e b→txE x=txE y→x=y:=fun a b x y ha hb hx hy h=>by
 have h1:=(W.vJ ha hx).1;have h2:=(W.vJ hb hy).1;unfold txE at h;rw[iF h1,iF h2]at h;exact h1.inj h2 h
def ppE (C:List TA):List (Bytes×Bytes):=(jP::C).flatMap fun x=>(jP::C).map fun y=>(prT x 0,prT y 0)
theorem iW.fin2 (W:iW by_ e C):Yu (GC' C) (hdE e) txE (ppE C):=fun a b x y ha hb hx hy=>by
 have key:∀{t h:TA},GC' C t→h∈hdE e t→h∈jP::C:=fun ht hh=>by
  rcases W.head ht hh with rfl|h'
  ·simp
  ·simp[h'.1]
 unfold txE;rw[iF (W.vJ ha hx).1,iF (W.vJ hb hy).1];exact List.mem_flatMap.2 ⟨x,key ha hx,List.mem_map.2 ⟨y,key hb hy,rfl⟩⟩
theorem iW.finl (W:iW by_ e C):(ppE C).length<2^40:=by
 have h:∀(l:List TA) (m:Nat) (f:TA→List (Bytes×Bytes)),(∀x,(f x).length=m)→(l.flatMap f).length=l.length*m:=by
  intro l m f hf
  induction l with
  |nil=>simp
  |cons x l ih=>rw[List.flatMap_cons,List.length_append,hf,ih,List.length_cons,Nat.add_mul];omega
 unfold ppE;rw[h _ (jP::C).length _ fun x=>by rw[List.length_map]];have:=W.fin;have h1:(jP::C).length≤2^19+1:=by simp;omega
 exact Nat.lt_of_le_of_lt (Nat.mul_le_mul h1 h1) (by decide)
theorem ML (l:List TA):(iE l).length≤l.length:=by
 unfold iE;rw[List.length_map];have h1:=(Ej (l9 (d9 l))).length_le;have h2:=(lX (d9 l)).length_eq;have h3:(d9 l).length=l.length:=by simp[d9]
 omega
noncomputable def iW.jw {T:Tab} (W:iW by_ e C) (F:oN T):JW T e where
 G:=GC' C
 hd:=hdE e
 tx:=txE
 heads:=fun t ht=>by
  obtain⟨n,h1,h2,h3⟩:=W.some _ ht.2.2
  have hE:∀p∈e.by_,wtT p.2≤2^40:=fun p hp=>by
   rw[W.ok.hby]at hp;have:=W.wt _ (W.mem p hp);omega
  have hw:∀y∈zP e (aN t),wtT y≤2^30:=fun y hy=>by
   rcases W.spr ((yG W.ok W.nodup _ _).1 hy) ht.2.2 with rfl|h'
   ·decide
   ·exact W.wt y h'
  have hl:=W.EL _ ht.2.2;have hok:=Sw (fun y hy=>(h3 y hy).1) hl hw (by rw[D9 fun y hy=>(h3 y hy).2.1];exact hl);have:=Nf F.toAJ e hE n t _ h1 hl (H8 ht.1 ht.2.1) (by have:=lI t;have:=ht.2.1;omega) hok;rw[Ng (fun y hy=>⟨(h3 y hy).1,(h3 y hy).2.1⟩) h2]at this;exact this
 hlen:=fun t ht=>by
  have hl:=W.EL _ ht.2.2;have:=ML (zP e (aN t));unfold hdE rz;split
  ·decide
  ·omega
 text:=fun t ht h hh=>by
  obtain⟨h1,h2⟩:=W.vJ ht hh;have:=RF F.toAA h (H8 h1.gt h2) (by rw[iF h1];omega) (by rw[iF h1];exact h1.wf);exact this
 sub:=fun t ht h hh=>W.heads.sub t ht h hh
 fn:=fun t ht h hh=>W.heads.fn t ht h hh
 rcd:=fun t ht h hh h5=>by
  have h1:=W.heads.rcd t ht h hh h5;refine⟨h1.1,h1.2,?_⟩;have h2:=(W.vJ ht hh).2;obtain⟨k,nm,ns,l⟩:=h;rw[wtT]at h2;have:=Yx ns;simp only[TA.names];omega
open Classical in
theorem iW.sub {T:Tab} (W:iW by_ e C) (F:oN T) {a b:TA} (ha:GC' C a) (hb:GC' C b):EK T.L 162 [a.av,b.av] e (.bool (decide (LE (GC' C) (hdE e) false a b))):=by
 obtain⟨n,r,S',h⟩:=Bp (loose:=false) W.fin2 W.finl W.heads ha hb;have:=Vx F (W.jw F) a b ha hb n r S' h;have hr:=Bq W.heads W.inj ha hb h
 have:decide (LE (GC' C) (hdE e) false a b)=r:=by
  cases r
  ·exact decide_eq_false fun hh=>by have:=hr.2 hh;cases this
  ·exact decide_eq_true (hr.1 rfl)
 rw[this];assumption
open Classical in
theorem iW.fits {T:Tab} (W:iW by_ e C) (F:oN T) {a b:TA} (ha:GC' C a) (hb:GC' C b):EK T.L 163 [a.av,b.av] e (.bool (decide (LE (GC' C) (hdE e) true a b))):=by
 obtain⟨n,r,S',h⟩:=Bp (loose:=true) W.fin2 W.finl W.heads ha hb;have:=RJ F (W.jw F) a b ha hb n r S' h;have hr:=Bq W.heads W.inj ha hb h
 have:decide (LE (GC' C) (hdE e) true a b)=r:=by
  cases r
  ·exact decide_eq_false fun hh=>by have:=hr.2 hh;cases this
  ·exact decide_eq_true (hr.1 rfl)
 rw[this];assumption
theorem CQ {B:Nat} (hB:1≤B) (hE:lq by_ e) (hnd:(by_.map (·.1)).Nodup) (hx:∀nm,¬nL by_ nm→(zP e (dF by_ nm)).length≤B):∀n,(∀t ys,bA e n t=some ys→ys.length≤B*wtT t)∧(∀l ys,aZ e n l=some ys→ys.length≤B*wtL l)
 |0=>⟨fun t ys h=>(by rw[bA]at h;cases h),fun l ys h=>(by rw[aZ]at h;cases h)⟩
 |n+1=>by
  obtain⟨h1,h2⟩:=CQ hB hE hnd hx n
  have hone:∀t:TA,B≤B*wtT t:=fun t=>by
   have:=BK t;exact Nat.le_mul_of_pos_right _ (by omega)
  refine⟨fun t ys h=>?_,fun l ys h=>?_⟩
  ·obtain⟨k,nm,ns,l⟩:=t
   have h0:=hone (.mk k nm ns l);rw[bA]at h;split at h
   ·split at h
    ·cases h;simp only[List.length_singleton];omega
    ·rename_i he
     have he:¬nL by_ nm:=fun h=>he ((mF hE hnd nm).2 h)
     rw[vS,hE.hby]at h;have:=hx nm he;rw[Oe h]at this;omega
   ·split at h
    ·have:=h2 _ _ h
     have h3:=BK (.mk k nm ns l);exact Nat.le_trans this (Nat.mul_le_mul_left _ (by simp only[TA.l]at h3;omega))
    ·cases h;simp only[List.length_singleton];omega
  ·cases l with
   |nil=>rw[aZ]at h;cases h;simp
   |cons t l=>
    rw[aZ]at h
    cases hx:bA e n t with
    |none=>rw[hx]at h;cases h
    |some xs=>
     cases hr:aZ e n l with
     |none=>rw[hx,hr]at h;cases h
     |some zs=>
      rw[hx,hr]at h;cases h;have k1:=h1 _ _ hx;have k2:=h2 _ _ hr;rw[wtL,List.length_append,Nat.mul_add,Nat.mul_add];omega
end Go.Ag
/- The greatest sound relation: laws of it. -/
namespace Go.Ag
open Go
section
variable {G : TA → Prop} {hd : TA → List TA} {loose : Bool}
theorem LE.out {a b:TA} (h:LE G hd loose a b):G a∧G b∧kP hd loose (iM (LE G hd loose)) a b:=by
 obtain⟨R,hs,hab⟩:=h;obtain⟨h1,h2,h3⟩:=hs a b hab;exact⟨h1,h2,h3.mono fun x y hb=>hb.mono fun a b h=>⟨R,hs,h⟩⟩
theorem LE.YH {R:TA→TA→Prop} (hR:∀a b,R a b→G a∧G b∧kP hd loose (iM fun a b=>R a b∨LE G hd loose a b) a b) {a b:TA} (h:R a b):LE G hd loose a b:=
 ⟨fun a b=>R a b∨LE G hd loose a b,fun a b h=>by
  rcases h with h|h
  ·exact hR a b h
  ·obtain⟨h1,h2,h3⟩:=h.out
   exact⟨h1,h2,h3.mono fun x y hb=>hb.mono fun a b h=>.inr h⟩,.inl h⟩
theorem LE.fold {a b:TA} (ha:G a) (hb:G b) (h:kP hd loose (iM (LE G hd loose)) a b):LE G hd loose a b:=
 LE.YH (R:=fun x y=>x=a∧y=b) (fun x y ⟨h1,h2⟩=>by subst h1 h2;exact⟨ha,hb,h.mono fun x y hb=>hb.mono fun a b h=>.inr h⟩) ⟨rfl,rfl⟩
theorem kP.congr {B:TA→TA→Prop} {a b a' b':TA} (h1:∀x,x∈hd a'→x∈hd a) (h2:∀x,x∈hd b→x∈hd b') (h:kP hd loose B a b):kP hd loose B a' b':=fun x hx=>
 let⟨y,hy,hu⟩:=h x (h1 x hx)
 ⟨y,h2 y hy,hu⟩
theorem LE.congr {a b a' b':TA} (ha:G a') (hb:G b') (h1:∀x,x∈hd a'→x∈hd a) (h2:∀x,x∈hd b→x∈hd b') (h:LE G hd loose a b):LE G hd loose a' b':=
 LE.fold ha hb (h.out.2.2.congr h1 h2)
theorem WG {ns:List Bytes} (hs:ns.Pairwise (· < ·)) {i:Nat} (hi:i<ns.length):l6 ns ns[i]=i:=by
 have h:=(yY hs).2 (List.getElem_mem hi);obtain⟨h1,h2⟩:=List.getElem?_eq_some_iff.1 h;have hp:=List.pairwise_iff_getElem.1 hs;rcases Nat.lt_trichotomy (l6 ns ns[i]) i with h'|h'|h'
 ·have:=hp _ _ h1 hi h'
  rw[h2]at this;exact absurd this (List.lt_irrefl _)
 ·exact h'
 ·have:=hp _ _ hi h1 h'
  rw[h2]at this;exact absurd this (List.lt_irrefl _)
theorem BP.refl (H:kX G hd) {R:TA→TA→Prop} (hr:∀a,G a→R a a) {a x:TA} (ha:G a) (hx:x∈hd a):BP loose (iM R) x x:=by
 by_cases h4:x.kind=4
 ·exact .inl ⟨.inl h4,by simp⟩
 ·refine .inr ⟨fun h=>h.elim h4 h4,rfl,?_⟩
  by_cases h56:x.kind≠5∧x.kind≠6
  ·exact .inl h56
  ·refine .inr ?_
   unfold iM;split
   ·rename_i h5
    obtain⟨k1,k2⟩:=H.rcd a ha x hx h5;intro p hp;obtain⟨i,hi,e⟩:=List.getElem_of_mem hp;rw[List.length_zip]at hi;rw[List.getElem_zip]at e;have h1:i<x.names.length:=by omega
    have h2:i<x.l.length:=by omega
    subst e;dsimp only;refine⟨List.getElem_mem h1,?_⟩;rw[WG k2 h1,List.getElem?_eq_getElem h2];exact hr _ (H.sub a ha x hx _ (List.getElem_mem h2))
   ·rename_i h5
    obtain⟨x0,x1,e⟩:=H.fn a ha x hx (by omega);exact⟨x0,x1,x0,x1,e,e,hr _ (H.sub a ha x hx _ (by rw[e];simp)),hr _ (H.sub a ha x hx _ (by rw[e];simp))⟩
theorem LE.refl (H:kX G hd) {a:TA} (ha:G a):LE G hd loose a a:=
 LE.YH (R:=fun x y=>x=y∧G x) (fun x y ⟨h1,h2⟩=>by
  subst h1
  exact⟨h2,h2,fun z hz=>⟨z,hz,BP.refl H (fun a ha=>.inl ⟨rfl,ha⟩) h2 hz⟩⟩) ⟨rfl,ha⟩
end
mutual
def gZ :TA→List TA
 |.mk k nm ns l=>.mk k nm ns l::uQ l
def uQ :List TA→List TA
 |[]=>[]
 |t::l=>gZ t ++uQ l
end
theorem rV {l:List TA} {x:TA}:x∈uQ l↔∃t∈l,x∈gZ t:=by
 induction l with
 |nil=>simp[uQ]
 |cons t l ih=>rw[uQ,List.mem_append,ih];simp
theorem pI (t:TA):t∈gZ t:=by obtain⟨k,nm,ns,l⟩:=t;rw[gZ];simp
theorem oV :∀(n:Nat) (t:TA),wtT t≤n→(∀x∈gZ t,wtT x≤wtT t∧∀y∈x.l,y∈gZ t)∧16*(gZ t).length≤wtT t
 |0,t,h=>by have:=BK t;omega
 |n+1,t,h=>by
  have ih:=oV n;obtain⟨k,nm,ns,l⟩:=t;rw[wtT]at h;have hl:∀t∈l,wtT t+8≤wtL l:=fun t ht=>iP ht
  have hlen:16*(uQ l).length≤wtL l:=by
   have:∀m:List TA,(∀t∈m,wtT t≤n)→16*(uQ m).length≤wtL m:=by
    intro m
    induction m with
    |nil=>intro _;simp[uQ]
    |cons t m ihm=>
     intro hm;rw[uQ,List.length_append,wtL];have h1:=(ih t (hm t (by simp))).2;have h2:=ihm fun x hx=>hm x (by simp[hx])
     omega
   exact this l fun t ht=>by have:=hl t ht;omega
  refine⟨fun x hx=>?_,?_⟩
  ·rw[gZ]at hx
   rcases List.mem_cons.1 hx with rfl|hx
   ·refine⟨Nat.le_refl _,fun y hy=>?_⟩
    rw[gZ];exact List.mem_cons_of_mem _ (rV.2 ⟨y,hy,pI y⟩)
   ·obtain⟨t,ht,hx⟩:=rV.1 hx
    have h1:=hl t ht;obtain⟨k1,k2⟩:=(ih t (by omega)).1 x hx;refine⟨by rw[wtT];omega,fun y hy=>?_⟩;rw[gZ];exact List.mem_cons_of_mem _ (rV.2 ⟨t,ht,k2 y hy⟩)
  ·rw[gZ,List.length_cons,wtT];omega
theorem G6 :∀(n:Nat) (t:TA),wtT t≤n→NT t→∀x∈gZ t,NT x
 |0,t,h=>by have:=BK t;omega
 |n+1,t,h=>by
  have ih:=G6 n;intro hn x hx;have hp:=hn.parts;obtain⟨k,nm,ns,l⟩:=t;rw[wtT]at h;rw[gZ]at hx;rcases List.mem_cons.1 hx with rfl|hx
  ·exact hn
  ·obtain⟨t,ht,hx⟩:=rV.1 hx
   have:=iP ht;exact ih t (by omega) (hp t ht) x hx
variable {by_ : List (Bytes × TA)} {e : dL} {C : List TA}
theorem iW.MV (W:iW by_ e C) {t x:TA} (ht:GC' C t):x∈hdE e t↔(Spr by_ (aN t) jP∧x=jP)∨(¬Spr by_ (aN t) jP∧Spr by_ (aN t) x):=by
 obtain⟨_,_,h2,h3⟩:=W.some _ ht.2.2;have hi:=fun y=>yG W.ok W.nodup (aN t) y
 have hany:(zP e (aN t)).any (fun t=>t.kind==4)=true↔Spr by_ (aN t) jP:=by
  rw[List.any_eq_true];refine⟨fun⟨y,hy,h4⟩=>?_,fun h=>⟨jP,(hi jP).2 h,rfl⟩⟩;have:=(h3 y hy).1.Nr (by simpa using h4);rw[←this];exact(hi y).1 hy
 unfold hdE rz
 by_cases hd:Spr by_ (aN t) jP
 ·rw[if_pos (hany.2 hd),List.mem_singleton]
  simp[hd]
 ·rw[if_neg fun h=>hd (hany.1 h),Di fun y hy=>(h3 y hy).1,hi]
  simp[hd]
theorem yF {t x:TA} (h7:t.kind≠7) (h8:t.kind≠8):Spr by_ t x↔x=t:=by
 refine⟨fun h=>?_,fun h=>by subst h;exact .self _ h7 h8⟩
 cases h with
 |self=>rfl
 |part=>exact absurd rfl h7
 |emp=>exact absurd rfl h8
 |ref=>exact absurd rfl h8
theorem Od {l:List TA} {x:TA}:Spr by_ (.mk 7 [] [] l) x↔∃t∈l,Spr by_ t x:=by
 refine⟨fun h=>?_,fun⟨t,ht,h⟩=>.part [] [] l t x ht h⟩
 cases h with
 |self h h7 _=>exact absurd rfl h7
 |part _ _ _ t _ ht h=>exact⟨t,ht,h⟩
theorem AY {e:dL}:∀n,(∀t ys,iV t=[]→bA e n t=some ys→16*ys.length≤wtT t)∧(∀l ys,sU l=[]→aZ e n l=some ys→16*ys.length≤wtL l)
 |0=>⟨fun t ys _ h=>(by rw[bA]at h;cases h),fun l ys _ h=>(by rw[aZ]at h;cases h)⟩
 |n+1=>by
  obtain⟨h1,h2⟩:=AY (e:=e) n;refine⟨fun t ys hb h=>?_,fun l ys hb h=>?_⟩
  ·obtain⟨k,nm,ns,l⟩:=t
   rw[iV]at hb;rw[bA]at h;split at h
   ·rename_i h8
    rw[if_pos h8]at hb;cases hb
   ·rename_i h8
    rw[if_neg h8]at hb;split at h
    ·rename_i h7
     rw[if_pos h7]at hb;have:=h2 _ _ hb h;rw[wtT];omega
    ·cases h;rw[wtT];simp only[List.length_singleton];omega
  ·cases l with
   |nil=>rw[aZ]at h;cases h;simp
   |cons t l=>
    rw[sU]at hb;obtain⟨b1,b2⟩:=List.append_eq_nil_iff.1 hb;rw[aZ]at h
    cases hx:bA e n t with
    |none=>rw[hx]at h;cases h
    |some xs=>
     cases hr:aZ e n l with
     |none=>rw[hx,hr]at h;cases h
     |some zs=>
      rw[hx,hr]at h;cases h;have k1:=h1 _ _ b1 hx;have k2:=h2 _ _ b2 hr;rw[wtL,List.length_append];omega
theorem Yd (hE:lq by_ e) (hnd:(by_.map (·.1)).Nodup) (bs:List TA) (hb:∀p∈by_,p.2∈bs) (hn:∀t∈bs,NT t) (hw:∀t∈bs,wtT t≤2^16) (hl:bs.length≤16) (hbare:∀nm,¬nL by_ nm→iV (dF by_ nm)=[]):iW by_ e (bs.flatMap gZ)where
 ok:=hE
 nodup:=hnd
 mem:=fun p hp=>List.mem_flatMap.2 ⟨p.2,hb p hp,pI _⟩
 nt:=fun t ht=>by
  obtain⟨b,hb,ht⟩:=List.mem_flatMap.1 ht;exact G6 _ b (Nat.le_refl _) (hn b hb) t ht
 cl:=fun t ht x hx=>by
  obtain⟨b,hb,ht⟩:=List.mem_flatMap.1 ht;exact List.mem_flatMap.2 ⟨b,hb,((oV _ b (Nat.le_refl _)).1 t ht).2 x hx⟩
 wt:=fun t ht=>by
  obtain⟨b,hb,ht⟩:=List.mem_flatMap.1 ht;have h1:=((oV _ b (Nat.le_refl _)).1 t ht).1;have h2:=hw b hb;omega
 fin:=by
  have:∀(l:List TA),(∀t∈l,wtT t≤2^16)→(l.flatMap gZ).length≤l.length*2^12:=by
   intro l
   induction l with
   |nil=>intro _;simp
   |cons t l ih=>
    intro h;rw[List.flatMap_cons,List.length_append,List.length_cons,Nat.add_mul];have h1:=(oV _ t (Nat.le_refl _)).2;have h2:=h t (by simp);have h3:=ih fun x hx=>h x (by simp[hx])
    omega
  have h1:=this bs hw;have h2:bs.length*2^12≤16*2^12:=Nat.mul_le_mul_right _ hl;omega
 EL:=fun t ht=>by
  obtain⟨b,hb',ht⟩:=List.mem_flatMap.1 ht;have h1:=((oV _ b (Nat.le_refl _)).1 t ht).1;have h2:=hw b hb';obtain⟨n,hs⟩:=rX hE hnd t
  have h3:=(CQ (B:=2^12) (by decide) hE hnd (fun nm hne=>by
   obtain⟨m,hm⟩:=rX hE hnd (dF by_ nm);have h4:=(AY m).1 _ _ (hbare nm hne) hm;obtain⟨_,p,hp,h5⟩:=vF (fun p hp=>hn _ (hb p hp)) hne;have h6:=hw _ (hb p hp);rw[←h5]at h6
   omega) n).1 t _ hs
  have h7:2^12*wtT t≤2^12*2^16:=Nat.mul_le_mul_left _ (by omega);omega
end Go.Ag
/- Heads of a union. -/
namespace Go.Ag
open Go
variable {by_ : List (Bytes × TA)} {e : dL} {C : List TA}
theorem Fj {t x:TA} (ht:NT t):Spr by_ t x↔∃p∈fq t,Spr by_ p x:=by
 unfold fq;split
 ·rename_i h7
  cases ht with
  |uni l=>exact Od
  |_=>cases h7
 ·simp
theorem Mi {l:List TA} {x:TA} (h0:l≠[]):Spr by_ (pY l) x↔∃p∈l,Spr by_ p x:=by
 match l,h0 with
 |[t],_=>simp[pY]
 |t::u::l,_=>exact Od
theorem R7 {l:List TA} {x:TA} (hl:∀t∈l,NT t):(∃t∈l,Spr by_ t x)↔∃p∈aR l,Spr by_ p x:=by
 refine⟨fun⟨t,ht,h⟩=>?_,fun⟨p,hp,h⟩=>?_⟩
 ·obtain⟨p,hp,h⟩:=(Fj (hl t ht)).1 h
  exact⟨p,sS.2 ⟨t,ht,hp⟩,h⟩
 ·obtain⟨t,ht,hp⟩:=sS.1 hp
  exact⟨t,ht,(Fj (hl t ht)).2 ⟨p,hp,h⟩⟩
theorem R6 {l:List TA} (hl:∀t∈l,GT t) (h0:l≠[]):(Spr by_ (aN (.mk 7 [] [] l)) jP↔∃t∈l,Spr by_ (aN t) jP)∧((¬∃t∈l,Spr by_ (aN t) jP)→∀x,Spr by_ (aN (.mk 7 [] [] l)) x↔∃t∈l,Spr by_ (aN t) x):=by
 have hN:∀t∈dM l,NT t:=fun t ht=>by
  rw[dP]at ht;obtain⟨u,hu,rfl⟩:=List.mem_map.1 ht;exact kJ (hl u hu)
 have hmap:∀x,(∃t∈l,Spr by_ (aN t) x)↔∃p∈aR (dM l),Spr by_ p x:=fun x=>by
  rw[←R7 hN,dP];refine⟨fun⟨t,ht,h⟩=>⟨aN t,List.mem_map.2 ⟨t,ht,rfl⟩,h⟩,fun⟨t,ht,h⟩=>?_⟩;obtain⟨u,hu,rfl⟩:=List.mem_map.1 ht;exact⟨u,hu,h⟩
 have hne:aR (dM l)≠[]:=KS hN (by rw[dP];simpa using h0);have hf:=vL hN;rw[aN,if_pos rfl,pG]
 cases hd:(aR (dM l)).find? (fun t=>t.kind==4)with
 |some t=>
  have hm:=List.mem_of_find?_eq_some hd;have h4:t.kind=4:=by simpa using List.find?_some (p:=fun t:TA=>t.kind==4) hd
  have:=(hf t hm).1.Nr h4;subst this;have hdyn:∃t∈l,Spr by_ (aN t) jP:=(hmap jP).2 ⟨jP,hm,.self _ (by decide) (by decide)⟩;exact⟨⟨fun _=>hdyn,fun _=>.self jP (show jP.kind≠7 by decide) (show jP.kind≠8 by decide)⟩,fun h=>absurd hdyn h⟩
 |none=>
  have key:∀x,Spr by_ (pY (iE (aR (dM l)))) x↔∃t∈l,Spr by_ (aN t) x:=fun x=>by
   rw[Mi (zY hne),hmap];refine⟨fun⟨p,hp,h⟩=>⟨p,nG hp,h⟩,fun⟨p,hp,h⟩=>⟨p,(Di fun t ht=>(hf t ht).1).2 hp,h⟩⟩
  exact⟨key jP,fun _=>key⟩
theorem iW.uz (W:iW by_ e C) {t u x:TA} (ht:GC' C t) (hu:aN t=u) (h7:u.kind≠7) (h8:u.kind≠8):x∈hdE e t↔x=u:=by
 rw[W.MV ht,hu,yF h7 h8,yF h7 h8]
 by_cases h:jP=u
 ·subst h;simp
 ·simp[h]
end Go.Ag
/- Abstract codes, printed by a program of ours (acode.py) out of the given program's form. -/
namespace Go.Ag
open Go
def Pj :aM:=(.mk 1 21 [2] (.seq (.ops [(.d 1 (.box 109 0)),(.d 2 (.mv (.const (.i 0))))]) (.seq (.ops [(.d 3 (.mv (.const (.i 1))))]) (.seq (.seq (.ops [(.d 4 (.mv (.const (.i 0))))]) (.block 0 (.loop (.seq (.seq (.ops [(.d 5 (.mv 4)),(.d 6 (.aB 3 1)),(.d 7 (.load none 6)),(.d 8 (.jo 7)),(.d 9 (.bin .lss 5 8))]) (.cond 9 .skip (.exit 0))) (.seq (.block 1 (.ops [(.d 12 (.mv 3)),(.d 13 (.aB 3 1)),(.d 14 (.load none 13)),(.d 15 (.mv 4)),(.d 16 (.aV 4 14 15)),(.d 17 (.load (some 4) 16)),(.d 18 (.call 190 [17])),(.d 19 (.bin .add 12 18)),(.d 3 (.mv 19))])) (.ops [(.d 10 (.mv 4)),(.d 11 (.bin .add 10 (.const (.i 1)))),(.d 4 (.mv 11))])))))) (.seq (.ops [(.d 20 (.mv 3)),(.d 2 (.mv 20))]) .ret)))))
def Vk :aM:=(.mk 1 21 [2] (.seq (.ops [(.d 2 (.mv (.const (.bool false))))]) (.seq (.ops [(.d 3 (.mv (.const (.i 0))))]) (.seq (.seq (.ops [(.d 4 (.mv (.const (.i 0))))]) (.block 0 (.loop (.seq (.seq (.ops [(.d 5 (.mv 4)),(.d 6 (.mv 0)),(.d 7 (.jo 6)),(.d 8 (.bin .lss 5 7))]) (.cond 8 .skip (.exit 0))) (.seq (.block 1 (.ops [(.d 11 (.mv 3)),(.d 12 (.mv 0)),(.d 13 (.mv 4)),(.d 14 (.aV 5 12 13)),(.d 15 (.aB 1 14)),(.d 16 (.load (some 4) 15)),(.d 17 (.call 190 [16])),(.d 18 (.bin .add 11 17)),(.d 3 (.mv 18))])) (.ops [(.d 9 (.mv 4)),(.d 10 (.bin .add 9 (.const (.i 1)))),(.d 4 (.mv 10))])))))) (.seq (.ops [(.d 19 (.mv 3)),(.d 20 (.bin .leq 19 (.const (.i 60)))),(.d 2 (.mv 20))]) .ret)))))
def Po :aM:=(.mk 1 75 [2,3,4] (.seq (.ops [(.d 2 (.mv (.const .eD))),(.d 3 (.mv (.const .nl))),(.d 4 (.mv (.const (.bool false))))]) (.seq (.seq (.ops [(.d 12 (.mv 0)),(.d 13 (.qx 12)),(.d 14 (.bin .gtr 13 (.const (.i 600))))]) (.cond 14 (.seq (.ops [(.d 2 (.mv (.const .eD))),(.d 3 (.mv (.const .nl))),(.d 4 (.mv (.const (.bool false))))]) .ret) .skip)) (.seq (.ops [(.d 16 (.mv 0)),(.d 17 (.call 189 [16])),(.d 15 (.mv 17)),(.d 18 (.ext 15 0)),(.d 19 (.ext 15 1)),(.d 5 (.mv 18)),(.d 6 (.mv 19))]) (.seq (.ops [(.d 21 (.mv 0)),(.d 22 (.call 24 [21])),(.d 20 (.mv 22)),(.d 23 (.ext 20 0)),(.d 24 (.ext 20 1)),(.d 7 (.mv 23)),(.d 8 (.mv 24))]) (.seq (.ops [(.d 9 (.mv (.const .nl)))]) (.seq (.ops [(.d 10 (.mv (.const .nl)))]) (.seq (.seq (.ops [(.d 11 (.mv (.const (.i 0))))]) (.block 0 (.loop (.seq (.seq (.ops [(.d 25 (.mv 11)),(.d 26 (.mv 5)),(.d 27 (.jo 26)),(.d 28 (.bin .lss 25 27))]) (.cond 28 .skip (.exit 0))) (.seq (.block 1 (.seq (.ops [(.d 31 (.mv 5)),(.d 32 (.mv 11)),(.d 33 (.aV 5 31 32)),(.d 34 (.aB 0 33)),(.d 35 (.load none 34)),(.d 36 (.bin .eql 35 (.const (.i 2))))]) (.cond 36 (.seq (.draw [(.d 37 (.mv 9)),(.d 38 (.mv 5)),(.d 39 (.mv 11)),(.d 40 (.aV 5 38 39)),(.d 41 (.aB 2 40)),(.d 42 (.load none 41)),(.d 43 (.mv 5)),(.d 44 (.mv 11)),(.d 45 (.aV 5 43 44)),(.d 46 (.aB 3 45)),(.d 47 (.load none 46)),(.d 48 (.aV 4 47 (.const (.i 0)))),(.d 49 (.load (some 4) 48)),(.d 50 (.build [(.str []),(.i 0),(.str []),.nl,.nl] [(0,(1,42)),(1,(4,49))])),(.d 51 (.lit 5 88 [] 1 [(0,50)]))] [(.d 52 (.append 5 88 182 37 51)),(.d 9 (.mv 52))]) (.draw [(.d 53 (.mv 10)),(.d 54 (.mv 7)),(.d 55 (.mv 11)),(.d 56 (.aV 5 54 55)),(.d 57 (.aB 2 56)),(.d 58 (.load none 57)),(.d 59 (.mv 7)),(.d 60 (.mv 11)),(.d 61 (.aV 5 59 60)),(.d 62 (.aB 3 61)),(.d 63 (.load none 62)),(.d 64 (.aV 4 63 (.const (.i 0)))),(.d 65 (.load (some 4) 64)),(.d 66 (.build [(.str []),(.i 0),(.str []),.nl,.nl] [(0,(1,58)),(1,(4,65))])),(.d 67 (.lit 5 88 [] 1 [(0,66)]))] [(.d 68 (.append 5 88 244 53 67)),(.d 10 (.mv 68))])) .skip))) (.ops [(.d 29 (.mv 11)),(.d 30 (.bin .add 29 (.const (.i 1)))),(.d 11 (.mv 30))])))))) (.seq (.ops [(.d 69 (.mv 9)),(.d 70 (.call 144 [69])),(.d 71 (.mv 10)),(.d 72 (.mv 9)),(.d 73 (.jo 72)),(.d 74 (.bin .leq 73 (.const (.i 8)))),(.d 2 (.mv 70)),(.d 3 (.mv 71)),(.d 4 (.mv 74))]) .ret)))))))))
end Go.Ag
/- Package types: all, Size. -/
namespace Go.Ag
open Go
variable {T : Tab} {L : Lnk}
mutual
def allT :TA→List TA
 |.mk k nm ns l=>.mk k nm ns l::yj l
def yj :List TA→List TA
 |[]=>[]
 |t::l=>allT t ++yj l
end
end Go.Ag
/- Package parse: expressions: the document's reader gives up once; the fields of a record. -/
namespace Go.Ag
open Go
structure BadEx (n:Nat):Prop where
 expr:∀(d:Nat) (s:RS),s.bad=true→(bZ n d s).2=s
 fn:∀(d:Nat) (a:Int) (p:dA×RS),p.2.bad=true→(BO n d a p).2=p.2
 lt:∀(d:Nat) (a:Int) (p:dA×RS),p.2.bad=true→(BM n d a p).2=p.2
 ie:∀(d:Nat) (a:Int) (s:RS),s.bad=true→(ifR n d a s).2=s
 el:∀(d:Nat) (a:Int) (x:EA) (q:EA×RS),q.2.bad=true→(uH n d a x q).2=q.2
 post:∀(d:Nat) (x:EA) (s:RS),s.bad=true→(mg n d x s).2=s
 basic:∀(d:Nat) (s:RS),s.bad=true→(fD n d s).2=s
 as_:∀(d:Nat) (a:Int) (q:EA×RS),q.2.bad=true→(asR n d a q).2=q.2
 fields:∀(d:Nat) (a:Int) (names:List Bytes) (l:List EA) (s:RS),s.bad=true→(fB n d a names l s).2=s
theorem dJ :∀n:Nat,BadEx n:=by
 intro n
 induction n with
 |zero=>exact⟨fun d s h=>by unfold bZ;rfl,fun d a p h=>by unfold BO;rfl,fun d a p h=>by unfold BM;rfl,fun d a s h=>by unfold ifR;rfl,fun d a x q h=>by unfold uH;rfl,fun d x s h=>by unfold mg;rfl,fun d s h=>by unfold fD;rfl,fun d a q h=>by unfold asR;rfl,fun d a ns l s h=>by unfold fB;rfl⟩
 |succ n ih=>
  refine⟨fun d s h=>?_,fun d a p h=>?_,fun d a p h=>?_,fun d a s h=>?_,fun d a x q h=>?_,fun d x s h=>?_,fun d s h=>?_,fun d a q h=>?_,fun d a ns l s h=>?_⟩
  ·unfold bZ
   rw[show jX d s=s from by unfold jX;rw[Ao h];split<;>rfl,if_pos h]
  ·unfold BO
   rw[bL h,if_pos h]
  ·unfold BM
   dsimp only;rw[bL h,ih.expr _ _ h,bL h,ih.expr _ _ h]
  ·unfold ifR
   rw[ih.expr _ _ h,bL h,ih.el _ _ _ _ (by rw[ih.expr _ _ h];exact h),ih.expr _ _ h]
  ·unfold uH
   dsimp only;rw[bL h,ih.expr _ _ h]
  ·unfold mg
   rw[kU h,kU h,if_neg (by simp),if_neg (by simp)]
  ·unfold fD
   rw[if_pos h]
  ·rw[asR,kU h,if_neg (by simp)]
   exact bL h _
  ·unfold fB
   rw[h,kU h,if_neg (by simp)];exact bL h _
def eSt (d:Nat):Nat→Bytes→List (Bytes×EA)→RS→List (Bytes×EA)×RS:=fun n nm x s=>
 (if nm=[]∨(bZ n (d+1) s).2.bad=true then x else x ++[(nm,(bZ n (d+1) s).1)],(bZ n (d+1) s).2)
theorem vR (d:Nat) (at_:Int):∀(n:Nat) (x:List (Bytes×EA)) (s:RS),s.ok→6*s.rem+8≤n→
  (fB n d at_ (x.map (·.1)) (x.map (·.2)) s).2=(dK kEq (eSt d) n (x.map (·.1)) x s).2∧
  ((dK kEq (eSt d) n (x.map (·.1)) x s).2.bad=false→(fB n d at_ (x.map (·.1)) (x.map (·.2)) s).1=.mk 5 at_ [] 0 ((dK kEq (eSt d) n (x.map (·.1)) x s).1.map (·.1)) ((dK kEq (eSt d) n (x.map (·.1)) x s).1.map (·.2)) [])
 |0,x,s,hs,hf=>by omega
 |n+1,x,s,hs,hf=>by
  rw[fB,dK]
  by_cases h1:(!s.bad&& !isR s kRb)=true
  ·rw[if_pos h1,if_pos h1]
   by_cases h2:(aD (aK s).2 kEq).bad=true
   ·rw[if_pos h2,if_pos h2]
    exact⟨rfl,fun e=>by rw[h2]at e;cases e⟩
   ·rw[if_neg h2,if_neg h2]
    have h2':(aD (aK s).2 kEq).bad=false:=by simpa using h2
    have k1:=lK hs kEq h2';have k2:=(bS hs).trans (aL (hs.of (bS hs)) kEq);have htr:=tC hs kEq h2'
    by_cases h3:l7 (x.map (·.1)) (aK s).1.text=true
    ·rw[if_pos h3,if_pos h3]
     have k3:=(fT n).expr (d+1) _ (hs.of k1);have k4:=gU ((hs.of k1).of k3);have r1:=k3.rem;have r2:=k4.rem;have r3:(gu (aD (aK s).2 kEq) (aK s).1).rem=(aD (aK s).2 kEq).rem:=rfl;have:=vR d at_ n x _ (((hs.of k1).of k3).of k4) (by omega);exact this
    ·rw[if_neg h3,if_neg h3]
     obtain⟨h4,_,_⟩:=ji h2';obtain⟨_,h6,h7⟩:=qo h4
     have hne:(aK s).1.text≠[]:=by
      rw[h7];exact hs.named _ (List.mem_of_getElem? (uP hs)) h6
     have k3:=(fT n).expr (d+1) _ (hs.of k2);have k4:=gU ((hs.of k2).of k3);have hok:=((hs.of k2).of k3).of k4;have r1:=k3.rem;have r2:=k4.rem;simp only[eSt];generalize bZ n (d+1) (aD (aK s).2 kEq)=q at hok k3 k4 r1 r2⊢
     by_cases h5:q.2.bad=true
     ·rw[if_pos (.inr h5),uE h5,mE h5]
      exact⟨(dJ n).fields _ _ _ _ _ h5,fun e=>by rw[h5]at e;cases e⟩
     ·rw[if_neg (fun e=>e.elim hne h5)]
      have:=vR d at_ n (x ++[((aK s).1.text,q.1)]) _ hok (by omega);rw[List.map_append,List.map_append]at this;exact this
  ·rw[if_neg h1,if_neg h1]
   exact⟨rfl,fun _=>rfl⟩
end Go.Ag

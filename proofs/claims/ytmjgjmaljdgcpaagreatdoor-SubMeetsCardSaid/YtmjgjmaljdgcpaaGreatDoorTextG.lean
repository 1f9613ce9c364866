/- Our texts, joined by a program of ours (join.py): part 7 of 9. -/
import Derived.Test.YtmjgjmaljdgcpaaGreatDoorTextF
set_option linter.unusedVariables false
/- Abstract codes, printed by a program of ours (acode.py) out of the given program's form. -/
namespace Go.Ag
open Go
def Pk :aN:=(.mk 2 9 [4] (.seq (.ops [(.d 4 (.mv (.const (.bool false))))]) (.seq (.ops [(.d 5 (.mv 0)),(.d 6 (.mv 1)),(.d 7 (.call 245 [5,6])),(.d 8 (.bin .geq 7 (.const (.i 0)))),(.d 4 (.mv 8))]) .ret)))
def Lr :aN:=(.mk 2 19 [4] (.seq (.ops [(.d 4 (.mv (.const (.i 0))))]) (.seq (.seq (.ops [(.d 6 (.mv 0)),(.d 7 (.jy 6)),(.d 8 (.mv (.const (.i 0))))]) (.block 0 (.loop (.seq (.ops [(.d 9 (.bin .lss 8 7))]) (.seq (.cond 9 .skip (.exit 0)) (.seq (.block 1 (.seq (.ops [(.d 10 (.mv 8)),(.d 5 (.mv 10))]) (.seq (.ops [(.d 11 (.mv 1)),(.d 12 (.mv 0)),(.d 13 (.mv 5)),(.d 14 (.bB 4 12 13)),(.d 15 (.load (some 4) 14)),(.d 16 (.gZ 11 [15]))]) (.cond 16 (.seq (.ops [(.d 17 (.mv 5)),(.d 4 (.mv 17))]) .ret) .skip)))) (.ops [(.d 18 (.bin .add 8 (.const (.i 1)))),(.d 8 (.mv 18))]))))))) (.seq (.ops [(.d 4 (.mv (.const (.i (-1)))))]) .ret))))
def Pb :aN:=(.mk 2 9 [4] (.seq (.ops [(.d 3 (.box 326 1)),(.d 4 (.mv (.const (.bool false))))]) (.seq (.ops [(.d 5 (.mv 0)),(.d 6 (.load (some 2) 3)),(.d 7 (.call 302 [5,6])),(.d 8 (.bin .geq 7 (.const (.i 0)))),(.d 4 (.mv 8))]) .ret)))
def Lj :aN:=(.mk 2 19 [4] (.seq (.ops [(.d 3 (.box 326 1)),(.d 4 (.mv (.const (.i 0))))]) (.seq (.seq (.ops [(.d 6 (.mv 0)),(.d 7 (.jy 6)),(.d 8 (.mv (.const (.i 0))))]) (.block 0 (.loop (.seq (.ops [(.d 9 (.bin .lss 8 7))]) (.seq (.cond 9 .skip (.exit 0)) (.seq (.block 1 (.seq (.ops [(.d 10 (.mv 8)),(.d 5 (.mv 10))]) (.seq (.iD [(.d 12 (.mv 0)),(.d 13 (.mv 5)),(.d 14 (.bB 2 12 13))] (.alt (.d 11 (.load (some 2) 3)) [] (.alt (.d 15 (.load (some 2) 14)) [] (.alt (.d 16 (.bU [1,1] false 11 15)) [] .done .stop) .stop) .stop)) (.cond 16 (.seq (.ops [(.d 17 (.mv 5)),(.d 4 (.mv 17))]) .ret) .skip)))) (.ops [(.d 18 (.bin .add 8 (.const (.i 1)))),(.d 8 (.mv 18))]))))))) (.seq (.ops [(.d 4 (.mv (.const (.i (-1)))))]) .ret))))
def Pm :aN:=(.mk 2 54 [4,5] (.seq (.ops [(.d 4 (.mv (.const (.i 0)))),(.d 5 (.mv (.const (.bool false))))]) (.seq (.ops [(.d 10 (.mv 0)),(.d 11 (.jy 10)),(.d 6 (.mv 11))]) (.seq (.ops [(.d 12 (.mv 6)),(.d 7 (.mv (.const (.i 0)))),(.d 8 (.mv 12))]) (.seq (.block 0 (.loop (.seq (.seq (.ops [(.d 13 (.mv 7)),(.d 14 (.mv 8)),(.d 15 (.bin .lss 13 14))]) (.cond 15 .skip (.exit 0))) (.block 1 (.seq (.ops [(.d 16 (.mv 7)),(.d 17 (.mv 8)),(.d 18 (.bin .add 16 17)),(.d 19 (.pF .u64 18)),(.d 20 (.bin .shr 19 (.const (.int .u64 1)))),(.d 21 (.pF .i64 20)),(.d 9 (.mv 21))]) (.seq (.ops [(.d 22 (.mv 0)),(.d 23 (.mv 9)),(.d 24 (.bB 1 22 23)),(.d 25 (.load none 24)),(.d 26 (.mv 1)),(.d 27 (.call 234 [25,26]))]) (.cond 27 (.ops [(.d 28 (.mv 9)),(.d 29 (.bin .add 28 (.const (.i 1)))),(.d 7 (.mv 29))]) (.ops [(.d 30 (.mv 9)),(.d 8 (.mv 30))])))))))) (.seq (.ops [(.d 31 (.mv 7)),(.d 32 (.mv 7)),(.d 33 (.mv 6)),(.d 34 (.bin .lss 32 33)),(.d 35 (.mv 34)),(.g 36 (.mv 0) 35 true),(.g 37 (.mv 7) 35 true),(.g 38 (.bB 1 36 37) 35 true),(.g 39 (.load none 38) 35 true),(.g 40 (.mv 1) 35 true),(.g 41 (.bin .eql 39 40) 35 true),(.g 42 (.mv 41) 35 true),(.g 43 (.mv 0) 42 false),(.g 44 (.mv 7) 42 false),(.g 45 (.bB 1 43 44) 42 false),(.g 46 (.load none 45) 42 false),(.g 47 (.call 235 [46]) 42 false),(.g 48 (.mv 47) 42 false),(.g 49 (.mv 1) 48 true),(.g 50 (.call 235 [49]) 48 true),(.g 51 (.pick 48 50 (.const (.bool false))) 42 false),(.g 52 (.pick 42 (.const (.bool true)) 51) 35 true),(.d 53 (.pick 35 52 (.const (.bool false)))),(.d 4 (.mv 31)),(.d 5 (.mv 53))]) .ret))))))
def Lv :aN:=(.mk 2 17 [4] (.seq (.ops [(.d 4 (.mv (.const (.bool false))))]) (.seq (.ops [(.d 5 (.mv 0)),(.d 6 (.call 267 [5])),(.d 7 (.mv 6)),(.g 8 (.mv 1) 7 true),(.g 9 (.call 267 [8]) 7 true),(.g 10 (.un .not 9) 7 true),(.d 11 (.pick 7 10 (.const (.bool false)))),(.d 12 (.mv 11)),(.g 13 (.mv 0) 12 false),(.g 14 (.mv 1) 12 false),(.g 15 (.bin .lss 13 14) 12 false),(.d 16 (.pick 12 (.const (.bool true)) 15)),(.d 4 (.mv 16))]) .ret)))
def GI :aN:=(.mk 1 6 [2] (.seq (.ops [(.d 2 (.mv (.const (.bool false))))]) (.seq (.ops [(.d 3 (.mv 0)),(.d 4 (.mv 0)),(.d 5 (.bin .neq 3 4)),(.d 2 (.mv 5))]) .ret)))
def Lu :aN:=(.mk 1 6 [2] (.seq (.ops [(.d 2 (.mv (.const (.bool false))))]) (.seq (.ops [(.d 3 (.mv 0)),(.d 4 (.mv 0)),(.d 5 (.bin .neq 3 4)),(.d 2 (.mv 5))]) .ret)))
def U6 :aN:=(.mk 3 32 [6] (.seq (.ops [(.d 3 (.box 260 0)),(.d 4 (.box 175 1)),(.d 5 (.box 175 2)),(.d 6 (.mv (.const (.bool false))))]) (.seq (.draw [(.d 10 (.load none 3)),(.d 11 (.aJ 10)),(.d 12 (.aB 0 11)),(.d 13 (.load none 12)),(.d 14 (.load (some 4) 5))] [(.d 15 (.call 149 [13,14])),(.d 7 (.mv 15))]) (.seq (.seq (.draw [(.d 16 (.load none 3)),(.d 17 (.aJ 16)),(.d 18 (.aB 0 17)),(.d 19 (.load none 18)),(.d 20 (.load (some 4) 4)),(.d 23 (.mv (.const (.i 0))))] [(.d 21 (.call 149 [19,20])),(.d 22 (.jy 21))]) (.block 0 (.loop (.seq (.ops [(.d 24 (.bin .lss 23 22))]) (.seq (.cond 24 .skip (.exit 0)) (.seq (.block 1 (.seq (.ops [(.d 25 (.bB 4 21 23)),(.d 26 (.load (some 4) 25)),(.d 9 (.alloc [(.i 0),(.str []),.nl,.nl] 175)),(.n (.store 4 9 26))]) (.seq (.ops [(.d 27 (.mv 7)),(.d 28 (.mkF (.func 238) [] [3,9])),(.d 29 (.call 212 [27,28])),(.d 30 (.un .not 29))]) (.cond 30 (.seq (.ops [(.d 6 (.mv (.const (.bool false))))]) .ret) .skip)))) (.ops [(.d 31 (.bin .add 23 (.const (.i 1)))),(.d 23 (.mv 31))]))))))) (.seq (.ops [(.d 6 (.mv (.const (.bool true))))]) .ret)))))
def Ph :aN:=(.mk 3 9 [4] (.seq (.ops [(.d 3 (.box 175 0)),(.d 4 (.mv (.const (.bool false))))]) (.seq (.ops [(.d 5 (.load none 1)),(.d 6 (.load (some 4) 2)),(.d 7 (.load (some 4) 3)),(.d 8 (.call 239 [5,6,7])),(.d 4 (.mv 8))]) .ret)))
def UN :aN:=(.mk 3 109 [6] (.seq (.ops [(.d 4 (.box 175 1)),(.d 5 (.box 175 2)),(.d 6 (.mv (.const (.bool false))))]) (.seq (.seq (.ops [(.d 10 (.aB 0 4)),(.d 11 (.load none 10)),(.d 12 (.bin .eql 11 (.const (.i 4)))),(.d 13 (.mv 12)),(.g 14 (.aB 0 5) 13 false),(.g 15 (.load none 14) 13 false),(.g 16 (.bin .eql 15 (.const (.i 4))) 13 false),(.d 17 (.pick 13 (.const (.bool true)) 16))]) (.cond 17 (.seq (.ops [(.d 18 (.mv 0)),(.d 19 (.aJ 18)),(.d 20 (.aB 1 19)),(.d 21 (.load none 20)),(.d 22 (.mv 21)),(.g 23 (.aB 0 4) 22 false),(.g 24 (.load none 23) 22 false),(.g 25 (.aB 0 5) 22 false),(.g 26 (.load none 25) 22 false),(.g 27 (.bin .eql 24 26) 22 false),(.d 28 (.pick 22 (.const (.bool true)) 27)),(.d 6 (.mv 28))]) .ret) .skip)) (.seq (.seq (.ops [(.d 29 (.aB 0 4)),(.d 30 (.load none 29)),(.d 31 (.aB 0 5)),(.d 32 (.load none 31)),(.d 33 (.bin .neq 30 32))]) (.cond 33 (.seq (.ops [(.d 6 (.mv (.const (.bool false))))]) .ret) .skip)) (.seq (.seq (.ops [(.d 34 (.aB 0 4)),(.d 35 (.load none 34)),(.d 36 (.bin .neq 35 (.const (.i 5)))),(.d 37 (.mv 36)),(.g 38 (.aB 0 4) 37 true),(.g 39 (.load none 38) 37 true),(.g 40 (.bin .neq 39 (.const (.i 6))) 37 true),(.d 41 (.pick 37 40 (.const (.bool false))))]) (.cond 41 (.seq (.ops [(.d 6 (.mv (.const (.bool true))))]) .ret) .skip)) (.seq (.draw [(.d 42 (.load (some 4) 4)),(.d 43 (.call 150 [42])),(.d 44 (.load (some 4) 5)),(.d 45 (.call 150 [44])),(.d 46 (.build [(.str []),(.str [])] [(0,(1,43)),(1,(1,45))])),(.d 7 (.alloc [(.str []),(.str [])] 326))] [(.n (.store 2 7 46))]) (.seq (.seq (.iD [(.d 47 (.mv 0)),(.d 48 (.aJ 47)),(.d 49 (.aB 2 48))] (.alt (.d 50 (.load none 49)) [] (.alt (.d 51 (.load (some 2) 7)) [] (.alt (.d 52 (.call 277 [50,51])) [] .done .stop) .stop) .stop)) (.cond 52 (.seq (.ops [(.d 6 (.mv (.const (.bool true))))]) .ret) .skip)) (.seq (.ops [(.d 53 (.mv 0)),(.d 54 (.aJ 53)),(.d 55 (.aB 2 54)),(.d 56 (.load none 55)),(.d 57 (.jy 56)),(.d 8 (.mv 57))]) (.seq (.iD [(.d 58 (.mv 0)),(.d 59 (.mv 0)),(.d 60 (.aJ 59)),(.d 61 (.aB 2 60))] (.alt (.d 62 (.load none 61)) [] (.alt (.d 63 (.load (some 2) 7)) [] (.alt (.d 64 (.lit 2 32 [] 1 [(0,63)])) [] (.alt (.d 65 (.append 2 32 326 62 64)) [] (.alt (.d 66 (.aJ 58)) [] (.alt (.d 67 (.aB 2 66)) [] (.alt (.n (.store 1 67 65)) [] .done .stop) .stop) .stop) .stop) .stop) .stop) .stop)) (.seq (.ops [(.d 9 (.mv (.const (.bool false))))]) (.seq (.seq (.ops [(.d 68 (.aB 0 4)),(.d 69 (.load none 68)),(.d 70 (.bin .eql 69 (.const (.i 5))))]) (.cond 70 (.ops [(.d 71 (.mv 0)),(.d 72 (.load (some 4) 4)),(.d 73 (.load (some 4) 5)),(.d 74 (.call 278 [71,72,73])),(.d 9 (.mv 74))]) (.iD [(.d 75 (.mv 0)),(.d 76 (.aB 3 5)),(.d 80 (.aB 3 4))] (.alt (.d 77 (.load none 76)) [] (.alt (.d 78 (.bB 4 77 (.const (.i 0)))) [] (.alt (.d 79 (.load (some 4) 78)) [] (.alt (.d 81 (.load none 80)) [] (.alt (.d 82 (.bB 4 81 (.const (.i 0)))) [] (.alt (.d 83 (.load (some 4) 82)) [] (.alt (.d 84 (.call 202 [75,79,83])) [] (.alt (.d 85 (.mv 84)) [] (.alt (.g 86 (.mv 0) 85 true) [] (.alt (.g 87 (.aB 3 4) 85 true) [] (.alt (.g 88 (.load none 87) 85 true) [] (.alt (.g 89 (.bB 4 88 (.const (.i 1))) 85 true) [] (.alt (.g 90 (.load (some 4) 89) 85 true) [] (.alt (.g 91 (.aB 3 5) 85 true) [] (.alt (.g 92 (.load none 91) 85 true) [] (.alt (.g 93 (.bB 4 92 (.const (.i 1))) 85 true) [] (.alt (.g 94 (.load (some 4) 93) 85 true) [] (.alt (.g 95 (.call 202 [86,90,94]) 85 true) [] (.alt (.d 96 (.pick 85 95 (.const (.bool false)))) [] (.alt (.d 9 (.mv 96)) [] .done .stop) .stop) .stop) .stop) .stop) .stop) .stop) .stop) .stop) .stop) .stop) .stop) .stop) .stop) .stop) .stop) .stop) .stop) .stop) .stop)))) (.seq (.seq (.ops [(.d 97 (.mv 9)),(.d 98 (.un .not 97))]) (.cond 98 (.ops [(.d 99 (.mv 0)),(.d 100 (.mv 0)),(.d 101 (.aJ 100)),(.d 102 (.aB 2 101)),(.d 103 (.load none 102)),(.d 104 (.mv 8)),(.d 105 (.yN 2 103 none (some 104))),(.d 106 (.aJ 99)),(.d 107 (.aB 2 106)),(.n (.store 1 107 105))]) .skip)) (.seq (.ops [(.d 108 (.mv 9)),(.d 6 (.mv 108))]) .ret)))))))))))))
def Uz :aN:=(.mk 3 44 [6] (.seq (.ops [(.d 4 (.box 175 1)),(.d 5 (.box 175 2)),(.d 6 (.mv (.const (.bool false))))]) (.seq (.seq (.ops [(.d 11 (.aB 2 5)),(.d 12 (.load none 11)),(.d 13 (.jy 12)),(.d 14 (.mv (.const (.i 0))))]) (.block 0 (.loop (.seq (.ops [(.d 15 (.bin .lss 14 13))]) (.seq (.cond 15 .skip (.exit 0)) (.seq (.block 1 (.seq (.ops [(.d 16 (.mv 14)),(.d 17 (.bB 1 12 14)),(.d 18 (.load none 17)),(.d 7 (.mv 16)),(.d 8 (.mv 18))]) (.seq (.ops [(.d 20 (.aB 2 4)),(.d 21 (.load none 20)),(.d 22 (.mv 8)),(.d 23 (.call 197 [21,22])),(.d 19 (.mv 23)),(.d 24 (.ext 19 0)),(.d 25 (.ext 19 1)),(.d 9 (.mv 24)),(.d 10 (.mv 25))]) (.seq (.draw [(.d 26 (.mv 10)),(.d 27 (.un .not 26)),(.d 28 (.mv 27)),(.g 29 (.mv 0) 28 false),(.g 30 (.aB 3 4) 28 false),(.g 31 (.load none 30) 28 false),(.g 32 (.mv 9) 28 false),(.g 33 (.bB 4 31 32) 28 false),(.g 34 (.load (some 4) 33) 28 false),(.g 35 (.aB 3 5) 28 false),(.g 36 (.load none 35) 28 false),(.g 37 (.mv 7) 28 false),(.g 38 (.bB 4 36 37) 28 false),(.g 39 (.load (some 4) 38) 28 false)] [(.g 40 (.call 202 [29,34,39]) 28 false),(.g 41 (.un .not 40) 28 false),(.d 42 (.pick 28 (.const (.bool true)) 41))]) (.cond 42 (.seq (.ops [(.d 6 (.mv (.const (.bool false))))]) .ret) .skip))))) (.ops [(.d 43 (.bin .add 14 (.const (.i 1)))),(.d 14 (.mv 43))]))))))) (.seq (.ops [(.d 6 (.mv (.const (.bool true))))]) .ret))))
def Vj :aN:=(.mk 3 13 [6] (.seq (.ops [(.d 4 (.box 175 1)),(.d 5 (.box 175 2)),(.d 6 (.mv (.const (.bool false))))]) (.seq (.ops [(.d 7 (.mv 0)),(.d 8 (.build [.eG,(.bool false),.nl] [(0,(1,7))])),(.d 9 (.box 263 8)),(.d 10 (.load (some 4) 4)),(.d 11 (.load (some 4) 5)),(.d 12 (.call 202 [9,10,11])),(.d 6 (.mv 12))]) .ret)))
def Vi :aN:=(.mk 3 13 [6] (.seq (.ops [(.d 4 (.box 175 1)),(.d 5 (.box 175 2)),(.d 6 (.mv (.const (.bool false))))]) (.seq (.ops [(.d 7 (.mv 0)),(.d 8 (.build [.eG,(.bool false),.nl] [(0,(1,7)),(1,(1,(.const (.bool true))))])),(.d 9 (.box 263 8)),(.d 10 (.load (some 4) 4)),(.d 11 (.load (some 4) 5)),(.d 12 (.call 202 [9,10,11])),(.d 6 (.mv 12))]) .ret)))
def YO :aN:=(.mk 3 17 [6] (.seq (.ops [(.d 4 (.box 175 1)),(.d 5 (.box 175 2)),(.d 6 (.mv (.const (.bool false))))]) (.seq (.ops [(.d 7 (.mv 0)),(.d 8 (.load (some 4) 4)),(.d 9 (.load (some 4) 5)),(.d 10 (.call 162 [7,8,9])),(.d 11 (.mv 10)),(.g 12 (.mv 0) 11 true),(.g 13 (.load (some 4) 5) 11 true),(.g 14 (.load (some 4) 4) 11 true),(.g 15 (.call 162 [12,13,14]) 11 true),(.d 16 (.pick 11 15 (.const (.bool false)))),(.d 6 (.mv 16))]) .ret)))
end Go.Ag
/- Package sub: what it asks of the library: Contains and Index of pairs on the trail, BinarySearch of names, ContainsFunc. -/
namespace Go.Ag
open Go
variable {T : Tab} {L : Lnk}
structure oQ (T:Tab):Prop extends zP T where
 Q0:T.has 212 Pk
 KM:T.has 245 Lr
 QV:T.has 277 Pb
 KI:T.has 302 Lj
 Q5:T.has 197 Pm
 KO:T.has 234 Lv
 KN:T.has 235 Lu
 EY:T.has 267 GI
 XL:T.has 202 U6
 QY:T.has 238 Ph
 Xx:T.has 239 UN
 Xk:T.has 278 Uz
 X3:T.has 162 Vj
 XZ:T.has 163 Vi
 ZA:T.has 169 YO
theorem M9 (EY:T.has 267 GI) (s:Bytes):Pure T.L 267 [.str s] (.bool false):=by
 refine Pure.run (dG (.str _)) (.bool _) (aG EY (by simp[GI]) ?_);conv=>whnf
 refine⟨.bool (!(s==s)),rfl,?_⟩;rw[beq_self_eq_true];exact Weak.refl _
theorem Kw (KN:T.has 235 Lu) (s:Bytes):Pure T.L 235 [.str s] (.bool false):=by
 refine Pure.run (dG (.str _)) (.bool _) (aG KN (by simp[Lu]) ?_);conv=>whnf
 refine⟨.bool (!(s==s)),rfl,?_⟩;rw[beq_self_eq_true];exact Weak.refl _
theorem QA (KO:T.has 234 Lv) (EY:T.has 267 GI) (a b:Bytes):Pure T.L 234 [.str a,.str b] (.bool (decide (a<b))):=by
 refine Pure.run (gB.at ⟨.str _,.str _,trivial⟩) (.bool _) (aG KO (by simp[Lv]) ?_);conv=>whnf
 refine(M9 EY a).to ?_;conv=>whnf
 rw[←pI];exact aH (Weak.refl _)
def vH (p:Bytes×Bytes):au:=.agg [.str p.1,.str p.2]
def lC (l:List (Bytes×Bytes)):List au:=l.map vH
structure TrS where
 ver:Nat
 xs:List (Bytes×Bytes)
 len:Nat
def TrS.cur (S:TrS):List (Bytes×Bytes):=S.xs.take S.len
def TrS.ok (S:TrS):Prop:=S.len≤S.xs.length∧(S.ver=0→S.len=0)
def tval (S:TrS):au:=match S.ver with
 |0=>.lst [] .nil
 |v+1=>.vec 4 (v+1) 2 0 S.len
def tobj (S:TrS):aU:=match S.ver with
 |0=>.dead
 |v+1=>.arr (v+1) (lC S.xs) 326
theorem xU (l:List (Bytes×Bytes)):(lC l).length=l.length:=by simp[lC]
theorem Dz (n:Nat) (p:Bytes×Bytes):Low n (vH p):=.agg _ (gB.at ⟨.str _,.str _,trivial⟩)
theorem F6 (n:Nat) (l:List (Bytes×Bytes)):∀x∈lC l,Low n x:=fun x hx=>by
 obtain⟨p,_,rfl⟩:=List.mem_map.1 hx;exact Dz n p
theorem Bg (l:List (Bytes×Bytes)):dF 2 (lC l):=fun x hx=>by
 obtain⟨p,_,rfl⟩:=List.mem_map.1 hx;exact⟨rfl,rfl⟩
theorem qy (S:TrS):Low 5 (tval S):=by
 unfold tval;split
 ·exact .lst _ _ trivial fP
 ·exact .vec _ _ _ _ _ (by decide)
theorem sO (n:Nat) (S:TrS):bI n (tobj S):=by
 unfold tobj;split
 ·trivial
 ·exact F6 n _
theorem Qy {H:Heap} {id v t i:Nat} {l:List (Bytes×Bytes)} (h:H[id]?=some (.arr v (lC l) t)) (hi:i<l.length):loadAt H (some 2) (.jC id v (i*2))=some (vH l[i]):=by
 have h2:∀x∈lC l,x.cells.length=2:=fun x hx=>(Bg l x hx).1
 have hl:=iC h2;rw[xU]at hl;simp only[loadAt,fM,h];rw[if_pos ⟨trivial,by rw[hl];omega⟩,sZ i h2]
 have:(lC l).drop i=vH l[i]::(lC l).drop (i+1):=by
  rw[List.drop_eq_getElem_cons (by rw[xU];exact hi)];simp[lC]
 rw[this];rfl
def D8 (l:List (Bytes×Bytes)) (p:Bytes×Bytes) (i:Nat):Int:=match l with
 |[]=> -1
 |q::l=>if(p.1==q.1&&p.2==q.2)=true then i else D8 l p (i+1)
theorem OH :∀(l:List (Bytes×Bytes)) (p:Bytes×Bytes) (i:Nat),decide (0≤D8 l p i)=l.contains p
 |[],p,i=>rfl
 |q::l,p,i=>by
  rw[D8,List.contains_cons];have hpq:(p.1==q.1&&p.2==q.2)=(p==q):=rfl;rw[hpq];cases h:(p==q)
  ·rw[if_neg (by simp),Bool.false_or];exact OH l p (i+1)
  ·rw[if_pos rfl,Bool.true_or];simp
theorem Dr (KI:T.has 302 Lj) (o0 o1 o2 o3:aU) (ho:fG 5 [o0,o1,o2,o3]) (S:TrS) (hS:S.ok) (hl:S.len≤2^40) (p:Bytes×Bytes):
  dB T.L 302 [tval S,vH p] [o0,o1,o2,o3,tobj S] (.int .i64 (D8 S.cur p 0)) [o0,o1,o2,o3,tobj S]:=by
 have hlow:∀o∈[o0,o1,o2,o3,tobj S],bI 5 o:=fG.at ⟨ho.1,ho.2.1,ho.2.2.1,ho.2.2.2.1,sO 5 S,trivial⟩;refine dB.of 0 rfl (.int _ _) hlow (aC.mono (Q:=fun r H'=>∃J,r=.ret (.int .i64 (D8 S.cur p 0))∧H'=[o0,o1,o2,o3,tobj S] ++J) ?_ fun r H' ⟨J,e1,e2⟩=>⟨_,_,J,e1,Weak.refl _,e2,rfl,fun i x y h1 h2=>by rw[h1]at h2;cases h2;exact bM.refl x⟩);obtain⟨res,hres⟩:∃res,D8 S.cur p 0=res:=⟨_,rfl⟩;rw[hres];refine aG KI (by simp[Lj]) ?_;obtain⟨v,xs,len⟩:=S;obtain⟨p1,p2⟩:=p;obtain⟨hS1,hS2⟩:=hS;unfold TrS.cur at hres;dsimp only at hS1 hS2 hl hres
 cases v with
 |zero=>
  obtain rfl:=hS2 rfl;rw[List.take_zero,D8]at hres;subst hres;conv=>whnf
  intro I hI hG;apply hI;conv=>whnf
  exact⟨_,rfl,rfl⟩
 |succ v=>
  conv=>whnf
  intro I hI hG
  have key:∀(d j:Nat) (e:Env),len-j=d→j≤len→D8 ((xs.take len).drop j) (p1,p2) j=res→I (fO e [(0,.vec 4 (v+1) 2 0 len),(3,.ptr 5 0),(7,.int .i64 len),(8,.int .i64 j)]) [o0,o1,o2,o3,.arr (v+1) (lC xs) 326,.cells [.str p1,.str p2] 326]:=by
   intro d
   induction d with
   |zero=>
    intro j e hd hj hr;have hjl:j=len:=by omega
    rw[List.drop_of_length_le (by rw[List.length_take];omega),D8]at hr;subst hr;apply hI;conv=>whnf
    rw[bV (by omega)];conv=>whnf
    exact⟨_,rfl,rfl⟩
   |succ d ihd=>
    intro j e hd hj hr;have hjl:j<len:=by omega
    have hjx:j<xs.length:=by omega
    have hdj:j<(xs.take len).length:=by rw[List.length_take];omega
    rw[List.drop_eq_getElem_cons hdj,D8,List.getElem_take]at hr;have hload:=fun H h=>Qy (H:=H) (id:=4) (v:=v+1) (t:=326) (l:=xs) h hjx
    have hnext:=fun e=>ihd (j+1) e (by omega) hjl
    generalize xs[j]=q at hr hload;obtain⟨q1,q2⟩:=q;apply hI;conv=>whnf
    rw[dA hjl];conv=>whnf
    refine⟨⟨Int.natCast_nonneg _,by omega,rfl⟩,?_⟩;conv=>whnf
    rw[show(0+((j:Nat):Int).toNat)*2=j*2 from by simp];refine nI (hload _ rfl) ?_;conv=>whnf
    dsimp only at hr
    have hgo:∀(e3:Env),fB e3 [(0,.vec 4 (v+1) 2 0 len),(3,.ptr 5 0),(7,.int .i64 len),(8,.int .i64 (j+1:Nat))]→(p1==q1&&p2==q2)=false→I e3 [o0,o1,o2,o3,.arr (v+1) (lC xs) 326,.cells [.str p1,.str p2] 326]:=fun e3 he hne=>by
     rw[if_neg (by rw[hne];simp)]at hr
     exact hG.keep [(0,.vec 4 (v+1) 2 0 len),(3,.ptr 5 0),(7,.int .i64 len),(8,.int .i64 (j+1:Nat))] [o0,o1,o2,o3,.arr (v+1) (lC xs) 326,.cells [.str p1,.str p2] 326] (Nat.le_refl 6) rfl he
      ⟨.vec _ _ _ _ _ (by decide:4<6),.ptr _ _ (by decide:5<6),.int _ _,.int _ _,trivial⟩
      ⟨aI (by decide:5≤6) ho.1,aI (by decide:5≤6) ho.2.1,aI (by decide:5≤6) ho.2.2.1,aI (by decide:5≤6) ho.2.2.2.1,F6 6 _,dO ⟨.str _,.str _,trivial⟩,trivial⟩ (hnext _ hr)
    have hj1:j+1<9223372036854775808:=by omega
    cases hq1:(p1==q1)
    ·conv=>whnf
     exact hgo _ ⟨rfl,rfl,rfl,add1 hj1,trivial⟩ (by rw[hq1];rfl)
    ·cases hq2:(p2==q2)
     ·conv=>whnf
      exact hgo _ ⟨rfl,rfl,rfl,add1 hj1,trivial⟩ (by rw[hq1,hq2];rfl)
     ·rw[if_pos (by rw[hq1,hq2];rfl)]at hr
      subst hr;conv=>whnf
      exact⟨_,rfl,rfl⟩
  exact inv_of [(0,.vec 4 (v+1) 2 0 len),(3,.ptr 5 0),(7,.int .i64 len),(8,.int .i64 0)] ⟨rfl,rfl,rfl,rfl,trivial⟩ (key len 0 _ rfl (Nat.zero_le _) hres)
theorem yT (QV:T.has 277 Pb) (KI:T.has 302 Lj) (o0 o1 o2 o3:aU) (ho:fG 5 [o0,o1,o2,o3]) (S:TrS) (hS:S.ok) (hl:S.len≤2^40) (p:Bytes×Bytes):
  dB T.L 277 [tval S,vH p] [o0,o1,o2,o3,tobj S] (.bool (S.cur.contains p)) [o0,o1,o2,o3,tobj S]:=by
 have hlow:∀o∈[o0,o1,o2,o3,tobj S],bI 5 o:=fG.at ⟨ho.1,ho.2.1,ho.2.2.1,ho.2.2.2.1,sO 5 S,trivial⟩;have hi:=Dr KI o0 o1 o2 o3 ho S hS hl p;have hlv:∀x∈[tval S,vH p],Low 5 x:=gB.at ⟨qy S,Dz 5 p,trivial⟩;rw[←OH S.cur p 0];generalize D8 S.cur p 0=res at hi⊢;refine dB.of 0 rfl (.bool _) hlow (aC.mono (Q:=fun r H'=>∃J,r=.ret (.bool (decide (0≤res)))∧H'=[o0,o1,o2,o3,tobj S] ++J) ?_ fun r H' ⟨J,e1,e2⟩=>⟨_,_,J,e1,Weak.refl _,e2,rfl,fun i x y h1 h2=>by rw[h1]at h2;cases h2;exact bM.refl x⟩);refine aG QV (by simp[Pb]) ?_;generalize htv:tval S=tv at hi hlv⊢
 have htvf:(∃v len,tv=.vec 4 v 2 0 len)∨tv=.lst [] .nil:=by
  subst htv;unfold tval;split
  ·exact .inr rfl
  ·exact .inl ⟨_,_,rfl⟩
 obtain⟨p1,p2⟩:=p;rcases htvf with⟨v,len,rfl⟩|rfl
 all_goals
  conv=>whnf
  refine hi.to rfl hlv hlow (.int _ _) hlow [.cells [.str p1,.str p2] 326] rfl ?_;conv=>whnf
  exact⟨_,rfl,rfl⟩
end Go.Ag
/- Package sub: BinarySearch of names. -/
namespace Go.Ag
open Go
variable {T : Tab} {L : Lnk}
def ni (ns:List Bytes) (nm:Bytes):Nat:=(ns.takeWhile fun s=>decide (s<nm)).length
theorem WL (ns:List Bytes) (nm:Bytes):ni ns nm≤ns.length:=(List.takeWhile_sublist _).length_le
theorem Iq {ns:List Bytes} {nm:Bytes} (hs:ns.Pairwise (· < ·)) {k:Nat} (hk:k<ns.length):ns[k]<nm↔k<ni ns nm:=by
 induction ns generalizing k with
 |nil=>cases hk
 |cons s ns ih=>
  obtain⟨h1,h2⟩:=List.pairwise_cons.1 hs;unfold ni;rw[List.takeWhile_cons]
  by_cases hlt:s<nm
  ·simp only[hlt,decide_true,if_true,List.length_cons]
   cases k with
   |zero=>simp[hlt]
   |succ k=>
    have:=ih h2 (k:=k) (by simpa using hk);unfold ni at this;simp only[List.getElem_cons_succ];rw[this];omega
  ·simp only[hlt,decide_false,Bool.false_eq_true,if_false,List.length_nil]
   refine⟨fun h=>?_,fun h=>by omega⟩
   cases k with
   |zero=>exact absurd h hlt
   |succ k=>
    simp only[List.getElem_cons_succ]at h;exact absurd (List.lt_trans (h1 _ (List.getElem_mem _)) h) hlt
theorem DF {ns:List Bytes} {nm:Bytes} (hs:ns.Pairwise (· < ·)):ns[ni ns nm]?=some nm↔nm∈ns:=by
 refine⟨fun h=>List.mem_of_getElem? h,fun h=>?_⟩;obtain⟨k,hk,rfl⟩:=List.getElem_of_mem h
 have hle:ni ns ns[k]≤k:=by
  rcases Nat.lt_or_ge k (ni ns ns[k])with h'|h'
  ·exact absurd ((Iq hs hk).2 h') (List.lt_irrefl _)
  ·exact h'
 have hge:k≤ni ns ns[k]:=by
  rcases Nat.lt_or_ge (ni ns ns[k]) k with h'|h'
  ·have hlt:ni ns ns[k]<ns.length:=by omega
   have:=List.pairwise_iff_getElem.1 hs _ _ hlt hk h';have:=(Iq hs hlt).1 this;omega
  ·exact h'
 have:ni ns ns[k]=k:=by omega
 rw[this,List.getElem?_eq_getElem hk]
theorem Zh {i j:Nat} (h:i+j≤2^50):IntKind.i64.wrap ((IntKind.u64.wrap (IntKind.i64.wrap ((i:Int)+(j:Int)))).fdiv (2^min (Int.toNat 1) IntKind.u64.bits))=((i+j)/2:Nat):=by
 have e1:IntKind.i64.wrap ((i:Int)+(j:Int))=((i+j:Nat):Int):=by rw[IntWalk.i64_in _ (by omega)];omega
 rw[e1]
 have e2:IntKind.u64.wrap ((i+j:Nat):Int)=((i+j:Nat):Int):=by
  simp only[IntKind.wrap,IntKind.signed,IntKind.bits];simp;omega
 rw[e2]
 have e3:(((i+j:Nat):Int)).fdiv (2^min (Int.toNat 1) IntKind.u64.bits)=(((i+j)/2:Nat):Int):=by
  rw[show(2:Int)^min (Int.toNat 1) IntKind.u64.bits=((2:Nat):Int)from rfl,Int.ofNat_fdiv]
 rw[e3];exact IntWalk.i64_in _ (by omega)
theorem IZ (Q5:T.has 197 Pm) (KO:T.has 234 Lv) (KN:T.has 235 Lu) (EY:T.has 267 GI) (ns:List Bytes) (nm:Bytes) (hs:ns.Pairwise (· < ·)) (hl:ns.length≤2^40):
  Pure T.L 197 [.lst (aO ns) .none,.str nm] (.tup [.int .i64 (ni ns nm:Nat),.bool (decide (nm∈ns))]):=by
 refine Pure.run (gB.at ⟨dR _ _ _ trivial,.str _,trivial⟩) (.tup _ (gB.at ⟨.int _ _,.bool _,trivial⟩)) (aG Q5 (by simp[Pm]) ?_);have hless:=QA KO EY;have hnan:=Kw KN;have hlo:=WL ns nm;have hlt:=fun k hk=>Iq (nm:=nm) hs (k:=k) hk
 have hhas:=DF (nm:=nm) hs;generalize ni ns nm=lo at hlo hlt hhas⊢;conv=>whnf
 intro I hI hG
 have key:∀(d i j:Nat) (e:Env),j-i=d→i≤lo→lo≤j→j≤ns.length→I (fO e [(0,.lst (aO ns) .none),(1,.str nm),(6,.int .i64 ns.length),(7,.int .i64 i),(8,.int .i64 j)]) []:=by
  intro d
  induction d using Nat.strongRecOn with
  |ind d ih=>
   intro i j e hd hi hj hjn;apply hI;conv=>whnf
   by_cases hij:i<j
   ·have hh:(i+j)/2<ns.length:=by omega
    rw[dA hij];conv=>whnf
    rw[Zh (by omega)];have hm1:i≤(i+j)/2:=by omega
    have hm2:(i+j)/2<j:=by omega
    generalize (i+j)/2=m at hh hm1 hm2⊢
    have hget:(aO ns)[((m:Nat):Int).toNat]?=some (.str ns[m]):=by
     rw[Int.toNat_natCast];simp[aO,List.getElem?_map,List.getElem?_eq_getElem hh]
    have hq:=hlt m hh;generalize ns[m]=s at hget hq;refine step_elem (Int.natCast_nonneg _) hget rfl ?_;conv=>whnf
    refine(hless s nm).to ?_;conv=>whnf
    have hm3:m+1<9223372036854775808:=by omega
    by_cases hb:s<nm
    ·rw[decide_eq_true hb]
     have:=hq.1 hb;conv=>whnf
     exact hG.keep [(0,.lst (aO ns) .none),(1,.str nm),(6,.int .i64 ns.length),(7,.int .i64 (m+1:Nat)),(8,.int .i64 j)] [] (Nat.le_refl 0) rfl ⟨rfl,rfl,rfl,add1 hm3,rfl,trivial⟩
      ⟨dR _ _ _ trivial,.str _,.int _ _,.int _ _,.int _ _,trivial⟩ trivial (ih (j-(m+1)) (by omega) (m+1) j _ rfl (by omega) hj hjn)
    ·rw[decide_eq_false hb]
     have:lo≤m:=by
      rcases Nat.lt_or_ge m lo with h'|h'
      ·exact absurd (hq.2 h') hb
      ·exact h'
     conv=>whnf
     exact hG.keep [(0,.lst (aO ns) .none),(1,.str nm),(6,.int .i64 ns.length),(7,.int .i64 i),(8,.int .i64 m)] [] (Nat.le_refl 0) rfl ⟨rfl,rfl,rfl,rfl,rfl,trivial⟩
      ⟨dR _ _ _ trivial,.str _,.int _ _,.int _ _,.int _ _,trivial⟩ trivial (ih (m-i) (by omega) i m _ rfl hi (by omega) (by omega))
   ·have hil:i=lo:=by omega
    subst hil;rw[bV (by omega)];conv=>whnf
    by_cases hn:i<ns.length
    ·rw[dA hn]
     have hget:(aO ns)[((i:Nat):Int).toNat]?=some (.str ns[i]):=by
      rw[Int.toNat_natCast];simp[aO,List.getElem?_map,List.getElem?_eq_getElem hn]
     rw[List.getElem?_eq_getElem hn,Option.some_inj]at hhas;generalize ns[i]=s at hget hhas;conv=>whnf
     refine step_elem (Int.natCast_nonneg _) hget rfl ?_;conv=>whnf
     cases hb:(s==nm)
     ·conv=>whnf
      refine step_elem (Int.natCast_nonneg _) hget rfl ?_;conv=>whnf
      refine(hnan s).to ?_;conv=>whnf
      have:decide (nm∈ns)=false:=decide_eq_false fun h=>by rw[hhas.2 h]at hb;simp at hb
      rw[this];exact aH (Weak.refl _)
     ·conv=>whnf
      have:decide (nm∈ns)=true:=decide_eq_true (hhas.1 (by simpa using hb));rw[this];exact aH (Weak.refl _)
    ·rw[bV (by omega)]
     conv=>whnf
     have:decide (nm∈ns)=false:=decide_eq_false fun h=>by
      have:=hhas.2 h;rw[List.getElem?_eq_none (by omega)]at this;cases this
     rw[this];exact aH (Weak.refl _)
 exact inv_of [(0,.lst (aO ns) .none),(1,.str nm),(6,.int .i64 ns.length),(7,.int .i64 0),(8,.int .i64 ns.length)] ⟨rfl,rfl,by show au.int .i64 ((aO ns).length:Nat)=_;rw[fU],rfl,by show au.int .i64 ((aO ns).length:Nat)=_;rw[fU],trivial⟩ (key _ 0 ns.length _ rfl (Nat.zero_le _) hlo (Nat.le_refl _))
end Go.Ag
/- Package sub: ContainsFunc with a judge in hand. -/
namespace Go.Ag
open Go
variable {T : Tab} {L : Lnk}
def qF {σ α:Type} (f:σ→α→Option (Bool×σ)):σ→List α→Option (Bool×σ)
 |s,[]=>some (false,s)
 |s,x::l=>match f s x with
  |none=>none
  |some (true,s')=>some (true,s')
  |some (false,s')=>qF f s' l
def anyI {σ α:Type} (f:σ→α→Option (Bool×σ)):Nat→σ→List α→Option (Int×σ)
 |_,s,[]=>some (-1,s)
 |j,s,x::l=>match f s x with
  |none=>none
  |some (true,s')=>some ((j:Int),s')
  |some (false,s')=>anyI f (j+1) s' l
theorem PD {σ α:Type} {f:σ→α→Option (Bool×σ)}:∀(l:List α) (j:Nat) (s:σ) (b:Bool) (s':σ),qF f s l=some (b,s')→∃i,anyI f j s l=some (i,s')∧decide (0≤i)=b
 |[],j,s,b,s',h=>by cases h;exact⟨-1,rfl,rfl⟩
 |x::l,j,s,b,s',h=>by
  rw[qF]at h;rw[anyI]
  cases hq:f s x with
  |none=>rw[hq]at h;cases h
  |some q=>
   obtain⟨c,s2⟩:=q;rw[hq]at h;cases c
   ·exact PD l (j+1) s2 b s' h
   ·cases h;exact⟨_,rfl,by simp⟩
variable {σ : Type}
structure PL (T:Tab) (g:Nat) (BB:σ→Heap) (p:σ→Nat→aU) (f:σ→TA→Option (Bool×σ)):Prop where
 hB:∀s,BB s=[p s 0,p s 1,p s 2,p s 3,p s 4,p s 5,p s 6,p s 7,p s 8]
 low:∀s,∀o∈BB s,bI 9 o
 call:∀s y b s',f s y=some (b,s')→dB T.L g [y.av,.ptr 5 0,.ptr 8 0] (BB s) (.bool b) (BB s')
theorem PL.lows {g:Nat} {BB:σ→Heap} {p:σ→Nat→aU} {f:σ→TA→Option (Bool×σ)} (A:PL T g BB p f) (s:σ) (n:Nat) (hn:9≤n):∀i,i<9→bI n (p s i):=fun i hi=>by
 refine aI hn (A.low s _ ?_);rw[A.hB]
 match i,hi with
 |0,_=>simp
 |1,_=>simp
 |2,_=>simp
 |3,_=>simp
 |4,_=>simp
 |5,_=>simp
 |6,_=>simp
 |7,_=>simp
 |8,_=>simp
 |i+9,h=>omega
theorem D7 (KM:T.has 245 Lr) {g:Nat} {BB:σ→Heap} {p:σ→Nat→aU} {f:σ→TA→Option (Bool×σ)} (A:PL T g BB p f) (l:List TA) (hl:l.length≤2^40) (s:σ) (i:Int) (s':σ) (h:anyI f 0 s l=some (i,s')):
  dB T.L 245 [.lst (TA.avs l) .none,.fn (.func g) [] [.ptr 5 0,.ptr 8 0]] (BB s) (.int .i64 i) (BB s'):=by
 have hB:=A.hB;have hlen:∀s,(BB s).length=9:=fun s=>by rw[hB];rfl
 refine dB.of 0 (by rw[hlen,hlen]) (.int _ _) (by rw[hlen];exact A.low s') (aC.mono (Q:=fun r H'=>∃J,r=.ret (.int .i64 i)∧H'=BB s' ++J) ?_ fun r H' ⟨J,e1,e2⟩=>⟨_,_,J,e1,Weak.refl _,e2,rfl,fun i x y h1 h2=>by rw[h1]at h2;cases h2;exact bM.refl x⟩);rw[List.replicate_zero,List.append_nil];obtain⟨fin,hfin⟩:∃fin,BB s'=fin:=⟨_,rfl⟩;rw[hfin];refine aG KM (by simp[Lr]) ?_;rw[hB];conv=>whnf
 intro I hI hG
 have key:∀(d j:Nat) (s1:σ) (e:Env),l.length-j=d→j≤l.length→anyI f j s1 (l.drop j)=some (i,s')→
   I (fO e [(0,.lst (TA.avs l) .none),(1,.fn (.func g) [] [.ptr 5 0,.ptr 8 0]),(7,.int .i64 l.length),(8,.int .i64 j)]) (BB s1):=by
  intro d
  induction d with
  |zero=>
   intro j s1 e hd hj hf;have hjl:j=l.length:=by omega
   rw[hjl,List.drop_length,anyI]at hf;cases hf;subst hfin;apply hI;rw[hB];conv=>whnf
   rw[bV (by omega)];conv=>whnf
   exact⟨_,rfl,(List.append_nil _).symm⟩
  |succ d ihd=>
   intro j s1 e hd hj hf;have hjl:j<l.length:=by omega
   rw[List.drop_eq_getElem_cons hjl,anyI]at hf;have hget:=mP hjl;have hnext:=fun s2 e=>ihd (j+1) s2 e (by omega) hjl
   generalize l[j]=v at hget hf
   cases hq:f s1 v with
   |none=>rw[hq]at hf;cases hf
   |some q=>
    obtain⟨c,s2⟩:=q;rw[hq]at hf;have hc:=A.call s1 v c s2 hq;have hlv:∀x∈[v.av,.ptr 5 0,.ptr 8 0],Low (BB s1).length x:=by rw[hlen];exact gB.at ⟨aT _ _,.ptr _ _ (by decide),.ptr _ _ (by decide),trivial⟩
    apply hI;rw[hB];obtain⟨vk,vn,vs,vl⟩:=v;conv=>whnf
    rw[dA hjl];conv=>whnf
    refine step_elem (Int.natCast_nonneg _) hget rfl ?_;conv=>whnf
    refine hc.to (by rw[hlen,hlen]) hlv (by rw[hlen];exact A.low _) (.bool _) (by rw[hlen];exact A.low _) [] (by rw[hB];rfl) ?_;cases c
    ·have hf:anyI f (j+1) s2 (l.drop (j+1))=some (i,s'):=hf
     rw[hB];conv=>whnf
     refine hG.keep [(0,.lst (TA.avs l) .none),(1,.fn (.func g) [] [.ptr 5 0,.ptr 8 0]),(7,.int .i64 l.length),(8,.int .i64 (j+1:Nat))] (BB s2) (by rw[hB];exact Nat.le_refl 9) (by rw[hB];rfl) ⟨rfl,rfl,rfl,add1 (by omega),trivial⟩
      (by rw[hlen];exact⟨.lst _ _ trivial (aX _ l),.fn _ _ _ fP (gB.at ⟨.ptr _ _ (by decide),.ptr _ _ (by decide),trivial⟩),.int _ _,.int _ _,trivial⟩)
      (by rw[hlen,hB];have:=A.lows s2 9 (Nat.le_refl 9);exact⟨this 0 (by decide),this 1 (by decide),this 2 (by decide),this 3 (by decide),this 4 (by decide),this 5 (by decide),this 6 (by decide),this 7 (by decide),this 8 (by decide),trivial⟩) (hnext _ _ hf)
    ·cases hf
     rw[hfin];conv=>whnf
     exact⟨_,rfl,rfl⟩
 have h0:=key l.length 0 s;rw[hB]at h0;exact inv_of [(0,.lst (TA.avs l) .none),(1,.fn (.func g) [] [.ptr 5 0,.ptr 8 0]),(7,.int .i64 l.length),(8,.int .i64 0)] ⟨rfl,rfl,by show au.int .i64 ((TA.avs l).length:Nat)=_;rw[bY],rfl,trivial⟩ (h0 _ rfl (Nat.zero_le _) h)
theorem zA (Q0:T.has 212 Pk) (KM:T.has 245 Lr) {g:Nat} {BB:σ→Heap} {p:σ→Nat→aU} {f:σ→TA→Option (Bool×σ)} (A:PL T g BB p f) (l:List TA) (hl:l.length≤2^40) (s:σ) (b:Bool) (s':σ) (h:qF f s l=some (b,s')):
  dB T.L 212 [.lst (TA.avs l) .none,.fn (.func g) [] [.ptr 5 0,.ptr 8 0]] (BB s) (.bool b) (BB s'):=by
 have hB:=A.hB;have hlen:∀s,(BB s).length=9:=fun s=>by rw[hB];rfl
 obtain⟨i,hi,rfl⟩:=PD l 0 s b s' h;have hx:=D7 KM A l hl s i s' hi;have hargs:∀n,9≤n→∀x∈[au.lst (TA.avs l) .none,.fn (.func g) [] [.ptr 5 0,.ptr 8 0]],Low n x:=fun n hn=>gB.at ⟨.lst _ _ trivial (aX _ l),.fn _ _ _ fP (gB.at ⟨.ptr _ _ (by omega),.ptr _ _ (by omega),trivial⟩),trivial⟩
 refine dB.of 0 (by rw[hlen,hlen]) (.bool _) (by rw[hlen];exact A.low s') (aC.mono (Q:=fun r H'=>∃J,r=.ret (.bool (decide (0≤i)))∧H'=BB s' ++J) ?_ fun r H' ⟨J,e1,e2⟩=>⟨_,_,J,e1,Weak.refl _,e2,rfl,fun i x y h1 h2=>by rw[h1]at h2;cases h2;exact bM.refl x⟩);rw[List.replicate_zero,List.append_nil];refine aG Q0 (by simp[Pk]) ?_;conv=>whnf
 refine hx.to (by rw[hlen,hlen]) (by rw[hlen];exact hargs 9 (Nat.le_refl 9)) (by rw[hlen];exact A.low _) (.int _ _) (by rw[hlen];exact A.low _) [] (List.append_nil _).symm ?_;conv=>whnf
 exact⟨_,rfl,rfl⟩
end Go.Ag
/- Package sub: the judge. -/
namespace Go.Ag
open Go
variable {T : Tab} {L : Lnk}
def TrS.push (S:TrS) (p:Bytes×Bytes):TrS:=match S.ver with
 |0=>⟨1,[p],1⟩
 |v+1=>⟨v+2,S.xs.take S.len ++[p],S.len+1⟩
def TrS.cut (S:TrS) (m:Nat):TrS:=⟨S.ver,S.xs,m⟩
theorem TrS.Cc {S:TrS} (h:S.ok) (p:Bytes×Bytes):(S.push p).ok:=by
 unfold TrS.push;have:=h.1;split
 ·exact⟨Nat.le_refl 1,fun h=>(by cases h)⟩
 ·refine⟨?_,fun h=>(by cases h)⟩
  simp only[List.length_append,List.length_take,List.length_singleton];omega
theorem TrS.Nu {S:TrS} (h:S.ok) {m:Nat} (hm:m≤S.len):(S.cut m).ok:=⟨Nat.le_trans hm h.1,fun e=>by have:=h.2 e;show m=0;omega⟩
section
variable (hd : TA → List TA) (tx : TA → Bytes) (loose : Bool)
def EU (rel:TrS→TA→TA→Option (Bool×TrS)) (S:TrS) (x y:TA):Option (Bool×TrS):=
 iB (fun S p=>if p.1∈x.names then rel S (x.l[ni x.names p.1]?.getD default) p.2 else some (false,S)) S (y.names.zip y.l)
def Ay (rel:TrS→TA→TA→Option (Bool×TrS)) (S:TrS) (x y:TA):Option (Bool×TrS):=match y.l,x.l with
 |[y0,y1],[x0,x1]=>match rel S y0 x0 with
  |none=>none
  |some (false,S')=>some (false,S')
  |some (true,S')=>rel S' x1 y1
 |_,_=>none
def rP (rel:TrS→TA→TA→Option (Bool×TrS)) (S:TrS) (x y:TA):Option (Bool×TrS):=
 if x.kind=4∨y.kind=4 then some (loose||x.kind==y.kind,S)
 else if x.kind≠y.kind then some (false,S)
 else if x.kind≠5∧x.kind≠6 then some (true,S)
 else if 2^40≤S.len then none
 else if S.cur.contains (tx x,tx y)=true then some (true,S)
 else match(if x.kind=5 then EU rel (S.push (tx x,tx y)) x y else Ay rel (S.push (tx x,tx y)) x y)with
  |none=>none
  |some (true,S')=>some (true,S')
  |some (false,S')=>if S.len≤S'.len then some (false,S'.cut S.len)else none
def qL :Nat→TrS→TA→TA→Option (Bool×TrS)
 |0,_,_,_=>none
 |n+1,S,a,b=>iB (fun S x=>qF (fun S y=>rP tx loose (qL n) S x y) S (hd b)) S (hd a)
end
theorem sV {σ α:Type} {st:σ→α→Option (Bool×σ)} {P:σ→Prop}:∀(l:List α),(∀s x b s',x∈l→P s→st s x=some (b,s')→P s')→∀s b s',P s→iB st s l=some (b,s')→P s'
 |[],_,s,b,s',h,e=>by cases e;exact h
 |x::l,hs,s,b,s',h,e=>by
  rw[iB]at e
  cases hq:st s x with
  |none=>rw[hq]at e;cases e
  |some q=>
   obtain⟨c,s2⟩:=q;rw[hq]at e;have h2:=hs s x c s2 (by simp) h hq;cases c
   ·cases e;exact h2
   ·exact sV l (fun s x b s' hx=>hs s x b s' (by simp[hx])) s2 b s' h2 e
theorem EL {σ α:Type} {st:σ→α→Option (Bool×σ)} {P:σ→Prop}:∀(l:List α),(∀s x b s',x∈l→P s→st s x=some (b,s')→P s')→∀s b s',P s→qF st s l=some (b,s')→P s'
 |[],_,s,b,s',h,e=>by cases e;exact h
 |x::l,hs,s,b,s',h,e=>by
  rw[qF]at e
  cases hq:st s x with
  |none=>rw[hq]at e;cases e
  |some q=>
   obtain⟨c,s2⟩:=q;rw[hq]at e;have h2:=hs s x c s2 (by simp) h hq;cases c
   ·exact EL l (fun s x b s' hx=>hs s x b s' (by simp[hx])) s2 b s' h2 e
   ·cases e;exact h2
theorem NV {tx:TA→Bytes} {loose:Bool} {rel:TrS→TA→TA→Option (Bool×TrS)} (hr:∀S a b r S',S.ok→rel S a b=some (r,S')→S'.ok):∀S x y r S',S.ok→rP tx loose rel S x y=some (r,S')→S'.ok:=by
 intro S x y r S' hS h;unfold rP at h;split at h
 ·cases h;exact hS
 split at h
 ·cases h;exact hS
 split at h
 ·cases h;exact hS
 split at h
 ·cases h
 split at h
 ·cases h;exact hS
 have hp:=TrS.Cc hS (tx x,tx y)
 have hin:∀r S',(if x.kind=5 then EU rel (S.push (tx x,tx y)) x y else Ay rel (S.push (tx x,tx y)) x y)=some (r,S')→S'.ok:=by
  intro r S' h;split at h
  ·exact sV (P:=TrS.ok) _ (fun s p b s' _ hs he=>by
    split at he
    ·exact hr _ _ _ _ _ hs he
    ·cases he;exact hs) _ _ _ hp h
  ·unfold Ay at h
   split at h
   ·split at h
    ·cases h
    ·rename_i hq
     cases h;exact hr _ _ _ _ _ hp hq
    ·rename_i hq
     exact hr _ _ _ _ _ (hr _ _ _ _ _ hp hq) h
   ·cases h
 split at h
 ·cases h
 ·rename_i hq
  cases h;exact hin _ _ hq
 ·rename_i hq
  split at h
  ·cases h
   rename_i hle;exact TrS.Nu (hin _ _ hq) hle
  ·cases h
theorem Oi {hd:TA→List TA} {tx:TA→Bytes} {loose:Bool}:∀(n:Nat) (S:TrS) (a b:TA) (r:Bool) (S':TrS),S.ok→qL hd tx loose n S a b=some (r,S')→S'.ok
 |0,_,_,_,_,_,_,h=>by rw[qL]at h;cases h
 |n+1,S,a,b,r,S',hS,h=>by
  rw[qL]at h;exact sV (P:=TrS.ok) _ (fun s x b' s' _ hs he=>EL (P:=TrS.ok) _ (fun s2 y b2 s2' _ hs2 he2=>NV (Oi n) s2 x y b2 s2' hs2 he2) _ _ _ hs he) _ _ _ hS h
def kX (e:dH) (loose:Bool) (S:TrS):Heap:=iW e ++[.cells [.ptr 2 0,.bool loose,tval S] 263,tobj S]
theorem l8 (e:dH) (loose:Bool) (S:TrS):∀o∈kX e loose S,bI 5 o:=
 fG.at ⟨eB 5 _ _,fD 5 _ _,dO ⟨.map _ (by decide:0<5),.map _ (by decide:1<5),trivial⟩,dO ⟨.ptr _ _ (by decide:2<5),.bool _,qy S,trivial⟩,sO 5 S,trivial⟩
structure JW (T:Tab) (e:dH)where
 G:TA→Prop
 hd:TA→List TA
 tx:TA→Bytes
 heads:∀t,G t→EK T.L 149 [t.av] e (.lst (TA.avs (hd t)) .none)
 hlen:∀t,G t→(hd t).length≤2^40
 text:∀t,G t→∀h∈hd t,Pure T.L 150 [h.av] (.str (tx h))
 sub:∀t,G t→∀h∈hd t,∀x∈h.l,G x
 fn:∀t,G t→∀h∈hd t,h.kind=6→∃a b,h.l=[a,b]
 rcd:∀t,G t→∀h∈hd t,h.kind=5→h.names.length=h.l.length∧h.names.Pairwise (· < ·)∧h.names.length≤2^40
def LQ (T:Tab) (e:dH) (loose:Bool) (G:TA→Prop) (rel:TrS→TA→TA→Option (Bool×TrS)):Prop:=
 ∀S a b r S',S.ok→G a→G b→rel S a b=some (r,S')→S'.ok∧dB T.L 202 [.ptr 3 0,a.av,b.av] (kX e loose S) (.bool r) (kX e loose S')
theorem Cg (a b:TA):∀x∈[au.ptr 3 0,a.av,b.av],Low 5 x:=gB.at ⟨.ptr _ _ (by decide),aT _ _,aT _ _,trivial⟩
theorem H8 (F:oQ T) {e:dH} {loose:Bool} {G:TA→Prop} {rel:TrS→TA→TA→Option (Bool×TrS)} (hR:LQ T e loose G rel) (x y:TA) (hx:∀t∈x.l,G t) (hy:∀t∈y.l,G t)
  (hxn:x.names.length=x.l.length∧x.names.Pairwise (· < ·)∧x.names.length≤2^40) (hyn:y.names.length=y.l.length∧y.names.length≤2^40) (S:TrS) (r:Bool) (S':TrS) (hS:S.ok) (h:EU rel S x y=some (r,S')):
  dB T.L 278 [.ptr 3 0,x.av,y.av] (kX e loose S) (.bool r) (kX e loose S'):=by
 refine dB.of 0 rfl (.bool _) (l8 e loose S') (aC.mono (Q:=fun r' H'=>∃J,r'=.ret (.bool r)∧H'=kX e loose S' ++J) ?_ fun r H' ⟨J,e1,e2⟩=>⟨_,_,J,e1,Weak.refl _,e2,rfl,fun i x y h1 h2=>by rw[h1]at h2;cases h2;exact bM.refl x⟩)
 have hxat:∀nm,nm∈x.names→∃t,x.l[ni x.names nm]?=some t∧x.l[ni x.names nm]?.getD default=t∧G t:=fun nm hm=>by
  have h1:=(DF hxn.2.1).2 hm;have h2:=(List.getElem?_eq_some_iff.1 h1).1;have h3:ni x.names nm<x.l.length:=by omega
  exact⟨x.l[ni x.names nm],List.getElem?_eq_getElem h3,by rw[List.getElem?_eq_getElem h3];rfl,hx _ (List.getElem_mem h3)⟩
 obtain⟨xk,xm,xs,xl⟩:=x;obtain⟨yk,ym,ys,yl⟩:=y;unfold EU at h;simp only[TA.names,TA.l]at h hxat hx hy hxn hyn;have hbs:=fun nm=>IZ F.Q5 F.KO F.KN F.EY xs nm hxn.2.1 hxn.2.2
 refine aG F.Xk (by simp[Uz]) ?_;conv=>whnf
 intro I hI hG
 have key:∀(d j:Nat) (S1:TrS) (e':Env),ys.length-j=d→j≤ys.length→S1.ok→iB (fun S p=>if p.1∈xs then rel S (xl[ni xs p.1]?.getD default) p.2 else some (false,S)) S1 ((ys.zip yl).drop j)=some (r,S')→
   I (fO e' [(0,.ptr 3 0),(4,.ptr 5 0),(5,.ptr 6 0),(12,.lst (aO ys) .none),(13,.int .i64 ys.length),(14,.int .i64 j)]) (kX e loose S1 ++[aZ (.mk xk xm xs xl),aZ (.mk yk ym ys yl)]):=by
  intro d
  induction d with
  |zero=>
   intro j S1 e' hd hj hok hf;have hjl:j=ys.length:=by omega
   rw[List.drop_of_length_le (by rw[List.length_zip];omega),iB]at hf;cases hf;apply hI;conv=>whnf
   rw[bV (by omega)];conv=>whnf
   exact⟨_,rfl,rfl⟩
  |succ d ihd=>
   intro j S1 e' hd hj hok hf;have hjl:j<ys.length:=by omega
   have hjl2:j<yl.length:=by omega
   have hjz:j<(ys.zip yl).length:=by rw[List.length_zip];omega
   rw[List.drop_eq_getElem_cons hjz,iB,List.getElem_zip]at hf
   have hget:(aO ys)[((j:Nat):Int).toNat]?=some (.str ys[j]):=by
    rw[Int.toNat_natCast];simp[aO,List.getElem?_map,List.getElem?_eq_getElem hjl]
   have YH:=mP hjl2;have hGy:=hy _ (List.getElem_mem hjl2);have hnext:=fun S2 e'=>ihd (j+1) S2 e' (by omega) hjl
   generalize ys[j]=nm at hget hf;generalize yl[j]=yt at YH hGy hf;dsimp only at hf
   have hlJ:∀S,fG 7 (kX e loose S ++[aZ (.mk xk xm xs xl),aZ (.mk yk ym ys yl)]):=fun S=>
    ⟨eB 7 _ _,fD 7 _ _,dO ⟨.map _ (by decide:0<7),.map _ (by decide:1<7),trivial⟩,dO ⟨.ptr _ _ (by decide:2<7),.bool _,(qy S).mono (by decide),trivial⟩,sO 7 S,aI (Nat.zero_le _) (cu _),aI (Nat.zero_le _) (cu _),trivial⟩
   have hj1:j+1<9223372036854775808:=by omega
   apply hI;conv=>whnf
   rw[dA hjl];conv=>whnf
   refine step_elem (Int.natCast_nonneg _) hget rfl ?_;conv=>whnf
   refine(hbs nm).to ?_;conv=>whnf
   by_cases hm:nm∈xs
   ·rw[if_pos hm]at hf
    rw[decide_eq_true hm];obtain⟨xt,k1,k2,k3⟩:=hxat nm hm;rw[k2]at hf
    have YI:(TA.avs xl)[((ni xs nm:Nat):Int).toNat]?=some xt.av:=by
     obtain⟨h1,h2⟩:=List.getElem?_eq_some_iff.1 k1;rw[←h2];exact mP h1
    generalize ni xs nm=lo at YI
    cases hq:rel S1 xt yt with
    |none=>rw[hq]at hf;cases hf
    |some q=>
     obtain⟨c,S2⟩:=q;rw[hq]at hf;obtain⟨hok2,hc⟩:=hR _ _ _ _ _ hok k3 hGy hq;have hlr:=Cg xt yt;obtain⟨ak,am,abP,al⟩:=xt;obtain⟨bk,bm,bs,bl⟩:=yt;conv=>whnf
     refine step_elem (Int.natCast_nonneg _) YI rfl ?_;conv=>whnf
     refine step_elem (Int.natCast_nonneg _) YH rfl ?_;conv=>whnf
     refine hc.to rfl hlr (l8 _ _ _) (.bool _) (l8 _ _ _) [aZ (.mk xk xm xs xl),aZ (.mk yk ym ys yl)] rfl ?_;cases c
     ·cases hf
      conv=>whnf
      exact⟨_,rfl,rfl⟩
     ·have hf:iB (fun S p=>if p.1∈xs then rel S (xl[ni xs p.1]?.getD default) p.2 else some (false,S)) S2 ((ys.zip yl).drop (j+1))=some (r,S'):=hf
      conv=>whnf
      exact hG.keep [(0,.ptr 3 0),(4,.ptr 5 0),(5,.ptr 6 0),(12,.lst (aO ys) .none),(13,.int .i64 ys.length),(14,.int .i64 (j+1:Nat))] (kX e loose S2 ++[aZ (.mk xk xm xs xl),aZ (.mk yk ym ys yl)]) (Nat.le_refl 7) rfl ⟨rfl,rfl,rfl,rfl,rfl,add1 hj1,trivial⟩
       ⟨.ptr _ _ (by decide:3<7),.ptr _ _ (by decide:5<7),.ptr _ _ (by decide:6<7),dR _ _ _ trivial,.int _ _,.int _ _,trivial⟩ (hlJ S2) (hnext _ _ hok2 hf)
   ·rw[if_neg hm]at hf
    rw[decide_eq_false hm];cases hf;conv=>whnf
    exact⟨_,rfl,rfl⟩
 exact inv_of [(0,.ptr 3 0),(4,.ptr 5 0),(5,.ptr 6 0),(12,.lst (aO ys) .none),(13,.int .i64 ys.length),(14,.int .i64 0)] ⟨rfl,rfl,rfl,rfl,by show au.int .i64 ((aO ys).length:Nat)=_;rw[fU],rfl,trivial⟩ (key ys.length 0 S _ rfl (Nat.zero_le _) hS h)
end Go.Ag
/- A type's text tells it. -/
namespace Go.Ag
open Go
def jE (s:Bytes):Prop:=s≠[]∧(∀c∈s,inA c bX=true)∧s≠Iz∧s≠zf∧s≠ze
inductive RT :TA→Prop where
 |int:RT (.mk 1 [] [] [])
 |bool:RT (.mk 2 [] [] [])
 |text:RT (.mk 3 [] [] [])
 |dyn:RT (.mk 4 [] [] [])
 |rcd (ns:List Bytes) (l:List TA) (hs:ns.Pairwise (· < ·)) (hl:ns.length=l.length) (hn:∀n∈ns,jE n) (h:∀t∈l,RT t):RT (.mk 5 [] ns l)
 |fn (a b:TA) (ha:RT a) (hb:RT b):RT (.mk 6 [] [] [a,b])
 |uni (l:List TA) (h2:2≤l.length) (h:∀t∈l,RT t) (h7:∀t∈l,t.kind≠7):RT (.mk 7 [] [] l)
 |ref (nm:Bytes) (h:jE nm):RT (.mk 8 nm [] [])
def D2 (r:Bytes):Prop:=∀c z,r=c::z→inA c bX=false
def D1 (r:Bytes):Prop:=D2 r∧∀z,r≠32::45::62::32::z
def D0 (r:Bytes):Prop:=D1 r∧∀z,r≠32::124::32::z
def C2 (a:TA):Prop:=∀b r r',RT b→prT a 2 ++r=prT b 2 ++r'→D2 r→D2 r'→a=b∧r=r'
def C1 (a:TA):Prop:=∀b r r',RT b→prT a 1 ++r=prT b 1 ++r'→D1 r→D1 r'→a=b∧r=r'
def C0 (a:TA):Prop:=∀b r r',RT b→prT a 0 ++r=prT b 0 ++r'→D0 r→D0 r'→a=b∧r=r'
theorem vF (lv:Nat):prT (.mk 1 [] [] []) lv=Iz:=by rw[prT];rfl
theorem qY (lv:Nat):prT (.mk 2 [] [] []) lv=zf:=by rw[prT];rfl
theorem qX (lv:Nat):prT (.mk 3 [] [] []) lv=ze:=by rw[prT];rfl
theorem ug (lv:Nat):prT (.mk 4 [] [] []) lv=[63]:=by rw[prT];rfl
theorem xS (ns:List Bytes) (l:List TA) (lv:Nat):prT (.mk 5 [] ns l) lv=[123] ++iV [44,32] (nM ns (prL l 0)) ++[125]:=by rw[prT];rfl
theorem FN (a b:TA) (lv:Nat):prT (.mk 6 [] [] [a,b]) lv=MQ (prT a 2 ++[32,45,62,32] ++prT b 1) (decide (2≤lv)):=by rw[prT];simp[prL]
theorem Aa (l:List TA) (h:l≠[]) (lv:Nat):prT (.mk 7 [] [] l) lv=MQ (iV [32,124,32] (prL l 1)) (decide (1≤lv)):=by
 rw[prT];simp only[show¬(7:Int)=1 by decide,show¬(7:Int)=2 by decide,show¬(7:Int)=3 by decide,show¬(7:Int)=4 by decide,show¬(7:Int)=5 by decide,show¬(7:Int)=6 by decide,if_false,if_true];rw[if_neg];intro h0;exact h (List.eq_nil_of_length_eq_zero h0)
theorem vE (nm:Bytes) (lv:Nat):prT (.mk 8 nm [] []) lv=nm:=by rw[prT];rfl
theorem G5 :∀{w w' r r':Bytes},(∀c∈w,inA c bX=true)→(∀c∈w',inA c bX=true)→D2 r→D2 r'→w ++r=w' ++r'→w=w'∧r=r'
 |[],[],r,r',_,_,_,_,e=>⟨rfl,e⟩
 |[],c::w',r,r',_,h',hr,_,e=>by
  have:=hr c (w' ++r') e;rw[h' c (by simp)]at this;cases this
 |c::w,[],r,r',h,_,_,hr',e=>by
  have:=hr' c (w ++r) e.symm;rw[h c (by simp)]at this;cases this
 |c::w,d::w',r,r',h,h',hr,hr',e=>by
  simp only[List.cons_append,List.cons.injEq]at e;obtain⟨rfl,e⟩:=e;obtain⟨e1,e2⟩:=G5 (fun x hx=>h x (by simp[hx])) (fun x hx=>h' x (by simp[hx])) hr hr' e;exact⟨by rw[e1],e2⟩
inductive Beg :TA→Prop where
 |word (t:TA) (k:t.kind=1∨t.kind=2∨t.kind=3∨t.kind=8) (hne:prT t 2≠[]) (h:∀c∈prT t 2,inA c bX=true):Beg t
 |dyn:Beg (.mk 4 [] [] [])
 |rcd (ns:List Bytes) (l:List TA) (z:Bytes) (h:prT (.mk 5 [] ns l) 2=123::z):Beg (.mk 5 [] ns l)
 |par (t:TA) (k:t.kind=6∨t.kind=7) (h:prT t 2=40::(prT t 0 ++[41])):Beg t
theorem beg {t:TA} (h:RT t):Beg t:=by
 cases h with
 |int=>exact .word _ (.inl rfl) (by rw[vF];decide) (by rw[vF];decide)
 |bool=>exact .word _ (.inr (.inl rfl)) (by rw[qY];decide) (by rw[qY];decide)
 |text=>exact .word _ (.inr (.inr (.inl rfl))) (by rw[qX];decide) (by rw[qX];decide)
 |dyn=>exact .dyn
 |rcd ns l=>exact .rcd ns l _ (by rw[xS];rfl)
 |fn a b=>exact .par _ (.inl rfl) (by rw[FN,FN];rfl)
 |uni l h2=>exact .par _ (.inr rfl) (by
   have:l≠[]:=by rintro rfl;simp at h2
   rw[Aa _ this,Aa _ this];rfl)
 |ref nm h=>exact .word _ (.inr (.inr (.inr rfl))) (by rw[vE];exact h.1) (by rw[vE];exact h.2.1)
theorem ku {w z r:Bytes} (hne:w≠[]) (h:∀c∈w,inA c bX=true) {c:UInt8} (hc:inA c bX=false):w ++r≠c::z:=by
 cases w with
 |nil=>exact absurd rfl hne
 |cons d w=>
  intro e;simp only[List.cons_append,List.cons.injEq]at e;rw[←e.1,h d (by simp)]at hc;cases hc
theorem GX {c:UInt8} {z:Bytes} (h:inA c bX=false):D2 (c::z):=fun d y e=>by cases e;exact h
theorem D1_of {c:UInt8} {z:Bytes} (h:inA c bX=false) (hc:c≠32):D1 (c::z):=⟨GX h,fun y e=>hc (by cases e;rfl)⟩
theorem LX {c:UInt8} {z:Bytes} (h:inA c bX=false) (hc:c≠32):D0 (c::z):=⟨D1_of h hc,fun y e=>hc (by cases e;rfl)⟩
theorem Za {t:TA} (h:RT t) (h6:t.kind≠6):prT t 1=prT t 2:=by
 cases h with
 |int=>rw[vF,vF]
 |bool=>rw[qY,qY]
 |text=>rw[qX,qX]
 |dyn=>rw[ug,ug]
 |rcd=>rw[xS,xS]
 |fn=>exact absurd rfl h6
 |uni l h2=>
  have:l≠[]:=by rintro rfl;simp at h2
  rw[Aa _ this,Aa _ this];rfl
 |ref=>rw[vE,vE]
theorem Zb {t:TA} (h:RT t) (h7:t.kind≠7):prT t 0=prT t 1:=by
 cases h with
 |int=>rw[vF,vF]
 |bool=>rw[qY,qY]
 |text=>rw[qX,qX]
 |dyn=>rw[ug,ug]
 |rcd=>rw[xS,xS]
 |fn=>rw[FN,FN];rfl
 |uni=>exact absurd rfl h7
 |ref=>rw[vE,vE]
theorem OO {t:TA} (h:RT t) (h6:t.kind=6):∃a b,t=.mk 6 [] [] [a,b]∧RT a∧RT b:=by
 cases h<;>first|(cases h6;done)|exact⟨_,_,rfl,by assumption,by assumption⟩
theorem Jh {t:TA} (h:RT t) (h7:t.kind=7):∃q qs,t=.mk 7 [] [] (q::qs)∧qs≠[]∧(∀x∈q::qs,RT x)∧∀x∈q::qs,x.kind≠7:=by
 cases h with
 |uni l h2 h h7'=>
  match l,h2 with
  |q::p::qs,_=>exact⟨q,p::qs,rfl,by simp,h,h7'⟩
 |_=>cases h7
theorem MH (a b:TA):prT (.mk 6 [] [] [a,b]) 1=prT a 2 ++([32,45,62,32] ++prT b 1):=by rw[FN];show _ ++_ ++_=_;rw[List.append_assoc]
theorem qI {a:TA} (ha:RT a) (h6:a.kind≠6) (h:C2 a):C1 a:=fun b r r' hb e hr hr'=>by
 rw[Za ha h6]at e
 by_cases hb6:b.kind=6
 ·obtain⟨b1,b2,rfl,k1,k2⟩:=OO hb hb6
  rw[MH,List.append_assoc]at e;obtain⟨_,e2⟩:=h b1 _ _ k1 e hr.1 (GX (by decide));exact absurd e2 (by rw[List.append_assoc];exact hr.2 _)
 ·rw[Za hb hb6]at e
  exact h b r r' hb e hr.1 hr'.1
theorem C1_fn {a1 a2:TA} (h1:C2 a1) (h2:C1 a2):C1 (.mk 6 [] [] [a1,a2]):=fun b r r' hb e hr hr'=>by
 rw[MH,List.append_assoc]at e
 by_cases hb6:b.kind=6
 ·obtain⟨b1,b2,rfl,k1,k2⟩:=OO hb hb6
  rw[MH]at e;simp only[List.append_assoc]at e;have hsp:∀z:Bytes,D2 ([32,45,62,32] ++z):=fun z=>GX (by decide)
  obtain⟨rfl,e2⟩:=h1 b1 _ _ k1 e (hsp _) (hsp _);obtain⟨rfl,e3⟩:=h2 b2 r r' k2 (List.append_cancel_left e2) hr hr';exact⟨rfl,e3⟩
 ·rw[Za hb hb6]at e
  obtain⟨_,e2⟩:=h1 b _ _ hb e (GX (by decide)) hr'.1;exact absurd e2.symm (by rw[List.append_assoc];exact hr'.2 _)
def oV (qs:List TA):Bytes:=qs.flatMap fun q=>[32,124,32] ++prT q 1
theorem Gd (q:TA):∀qs:List TA,iV [32,124,32] (prL (q::qs) 1)=prT q 1 ++oV qs
 |[]=>by rw[prL,prL];simp[iV,oV]
 |p::qs=>by
  rw[prL,prL];have:=Gd p qs;rw[prL]at this;show prT q 1 ++[32,124,32] ++iV [32,124,32] (prT p 1::prL qs 1)=_;rw[this];simp[oV,List.append_assoc]
theorem Ic (q:TA) (qs:List TA):prT (.mk 7 [] [] (q::qs)) 0=prT q 1 ++oV qs:=by rw[Aa _ (by simp)];exact Gd q qs
theorem wY {qs:List TA} {r:Bytes} (hr:D0 r):D1 (oV qs ++r):=by
 cases qs with
 |nil=>exact hr.1
 |cons q qs=>exact⟨GX (by decide),fun z e=>by simp[oV]at e⟩
theorem qJ {a:TA} (ha:RT a) (h7:a.kind≠7) (h:C1 a):C0 a:=fun b r r' hb e hr hr'=>by
 rw[Zb ha h7]at e
 by_cases hb7:b.kind=7
 ·obtain⟨p,ps,rfl,hne,k1,k2⟩:=Jh hb hb7
  rw[Ic,List.append_assoc]at e;obtain⟨_,e2⟩:=h p _ _ (k1 p (by simp)) e hr.1 (wY hr')
  cases ps with
  |nil=>exact absurd rfl hne
  |cons p' ps=>exact absurd e2 (by simp only[oV,List.flatMap_cons,List.append_assoc];exact hr.2 _)
 ·rw[Zb hb hb7]at e
  exact h b r r' hb e hr.1 hr'.1
theorem N8 :∀{qs ps:List TA} {r r':Bytes},(∀q∈qs,C1 q)→(∀p∈ps,RT p)→D0 r→D0 r'→oV qs ++r=oV ps ++r'→qs=ps∧r=r'
 |[],[],r,r',_,_,_,_,e=>⟨rfl,e⟩
 |[],p::ps,r,r',_,_,hr,_,e=>absurd e (by simp only[oV,List.flatMap_nil,List.nil_append,List.flatMap_cons,List.append_assoc];exact hr.2 _)
 |q::qs,[],r,r',_,_,_,hr',e=>absurd e.symm (by simp only[oV,List.flatMap_nil,List.nil_append,List.flatMap_cons,List.append_assoc];exact hr'.2 _)
 |q::qs,p::ps,r,r',hq,hp,hr,hr',e=>by
  have e1:prT q 1 ++(oV qs ++r)=prT p 1 ++(oV ps ++r'):=by
   simp only[oV,List.flatMap_cons,List.append_assoc]at e;have:=List.append_cancel_left e;simpa only[oV]using this
  obtain⟨rfl,e2⟩:=hq q (by simp) p _ _ (hp p (by simp)) e1 (wY hr) (wY hr');obtain⟨rfl,e3⟩:=N8 (fun x hx=>hq x (by simp[hx])) (fun x hx=>hp x (by simp[hx])) hr hr' e2;exact⟨rfl,e3⟩
theorem Z5 {q:TA} {qs:List TA} (hne:qs≠[]) (h:∀x∈q::qs,C1 x):C0 (.mk 7 [] [] (q::qs)):=fun b r r' hb e hr hr'=>by
 rw[Ic,List.append_assoc]at e
 by_cases hb7:b.kind=7
 ·obtain⟨p,ps,rfl,hne',k1,k2⟩:=Jh hb hb7
  rw[Ic,List.append_assoc]at e;obtain⟨rfl,e2⟩:=h q (by simp) p _ _ (k1 p (by simp)) e (wY hr) (wY hr');obtain⟨rfl,e3⟩:=N8 (fun x hx=>h x (by simp[hx])) (fun x hx=>k1 x (by simp[hx])) hr hr' e2;exact⟨rfl,e3⟩
 ·rw[Zb hb hb7]at e
  obtain⟨_,e2⟩:=h q (by simp) b _ _ hb e (wY hr) hr'.1
  cases qs with
  |nil=>exact absurd rfl hne
  |cons q' qs=>exact absurd e2.symm (by simp only[oV,List.flatMap_cons,List.append_assoc];exact hr'.2 _)
theorem LY {a:TA} (ha:RT a) (k:a.kind=6∨a.kind=7) (h:C0 a):C2 a:=fun b r r' hb e hr hr'=>by
 have ea:prT a 2=40::(prT a 0 ++[41]):=by
  cases beg ha with
  |word _ k'=>rcases k with k|k<;>rw[k]at k'<;>simp at k'
  |dyn=>rcases k with k|k<;>cases k
  |rcd=>rcases k with k|k<;>cases k
  |par _ _ h=>exact h
 rw[ea]at e
 have eb:prT b 2=40::(prT b 0 ++[41]):=by
  cases beg hb with
  |word _ k' hne hw=>exact absurd e.symm (ku hne hw (by decide))
  |dyn=>rw[ug]at e;cases e
  |rcd _ _ z h'=>rw[h']at e;cases e
  |par _ _ h=>exact h
 rw[eb]at e;simp only[List.cons_append,List.append_assoc,List.cons.injEq,true_and]at e;obtain⟨e1,e2⟩:=h b _ _ hb e (LX (by decide) (by decide)) (LX (by decide) (by decide));exact⟨e1,by simpa using e2⟩
def qg :List Bytes→List TA→Bytes
 |n::ns,t::l=>[44,32] ++(n ++([58,32] ++(prT t 0 ++qg ns l)))
 |_,_=>[125]
theorem vP :∀(n:Bytes) (ns:List Bytes) (t:TA) (l:List TA),iV [44,32] (nM (n::ns) (prL (t::l) 0)) ++[125]=n ++([58,32] ++(prT t 0 ++qg ns l))
 |n,[],t,l=>by rw[prL];simp[nM,iV,qg]
 |n,m::ns,t,[]=>by rw[prL,prL];simp[nM,iV,qg]
 |n,m::ns,t,u::l=>by
  have:=vP m ns u l;rw[prL,prL];rw[prL]at this;show(n ++[58,32] ++prT t 0) ++[44,32] ++iV [44,32] (nM (m::ns) (prT u 0::prL l 0)) ++[125]=_;rw[List.append_assoc _ _ [125],this,qg];simp[List.append_assoc]
theorem TT :∀{ns ns':List Bytes} {l l':List TA} {r r':Bytes},ns.length=l.length→ns'.length=l'.length→(∀n∈ns,jE n)→(∀n∈ns',jE n)→(∀t∈l,C0 t)→(∀t∈l',RT t)→qg ns l ++r=qg ns' l' ++r'→ns=ns'∧l=l'∧r=r'
 |[],[],[],[],r,r',_,_,_,_,_,_,e=>⟨rfl,rfl,by simpa[qg]using e⟩
 |[],n::ns,[],t::l,r,r',_,_,_,_,_,_,e=>by simp[qg]at e
 |n::ns,[],t::l,[],r,r',_,_,_,_,_,_,e=>by simp[qg]at e
 |n::ns,m::ns',t::l,u::l',r,r',h1,h2,hn,hn',hc,hr,e=>by
  rw[qg,qg]at e;simp only[List.append_assoc]at e;have e1:=List.append_cancel_left e;clear e;have hsp:∀z:Bytes,D2 ([58,32] ++z):=fun z=>GX (by decide)
  obtain⟨rfl,e2⟩:=G5 (hn n (by simp)).2.1 (hn' m (by simp)).2.1 (hsp _) (hsp _) e1;clear e1;have e3:=List.append_cancel_left e2
  have hD:∀(ns:List Bytes) (l:List TA) (r:Bytes),D0 (qg ns l ++r):=fun ns l r=>by
   match ns,l with
   |[],_=>exact LX (by decide) (by decide)
   |_::_,[]=>exact LX (by decide) (by decide)
   |_::_,_::_=>exact LX (by decide) (by decide)
  obtain⟨rfl,e4⟩:=hc t (by simp) u _ _ (hr u (by simp)) e3 (hD _ _ _) (hD _ _ _);obtain⟨rfl,rfl,e5⟩:=TT (by simpa using h1) (by simpa using h2) (fun x hx=>hn x (by simp[hx])) (fun x hx=>hn' x (by simp[hx])) (fun x hx=>hc x (by simp[hx])) (fun x hx=>hr x (by simp[hx])) e4;exact⟨rfl,rfl,e5⟩
theorem Z0 {ns:List Bytes} {l:List TA} (hl:ns.length=l.length) (hn:∀n∈ns,jE n) (h:∀t∈l,C0 t):C2 (.mk 5 [] ns l):=fun b r r' hb e hr hr'=>by
 rw[xS]at e
 cases hb with
 |rcd ns' l' hs' hl' hn' h'=>
  rw[xS]at e;simp only[List.append_assoc]at e;have e:=List.append_cancel_left e
  match ns,l,ns',l' with
  |[],[],[],[]=>exact⟨rfl,by simpa[nM,iV]using e⟩
  |[],[],n::ns',t::l'=>
   rw[←List.append_assoc,←List.append_assoc,vP]at e;have:inA 125 bX=false:=by decide
   exact absurd e.symm (by
    simp only[nM,prL,List.zipWith_nil_left,iV,List.nil_append,List.cons_append,List.append_assoc]
    exact ku (hn' n (by simp)).1 (hn' n (by simp)).2.1 this)
  |n::ns,t::l,[],[]=>
   rw[←List.append_assoc,←List.append_assoc,vP]at e;have:inA 125 bX=false:=by decide
   exact absurd e (by
    simp only[nM,prL,List.zipWith_nil_left,iV,List.nil_append,List.cons_append,List.append_assoc]
    exact ku (hn n (by simp)).1 (hn n (by simp)).2.1 this)
  |n::ns,t::l,m::ns',u::l'=>
   rw[←List.append_assoc,←List.append_assoc,vP,vP]at e;obtain⟨e1,e2,e3⟩:=TT (ns:=n::ns) (ns':=m::ns') (l:=t::l) (l':=u::l') (r:=r) (r':=r') hl hl' hn hn' h h' (by rw[qg,qg];simp only[List.append_assoc]at e⊢;rw[e]);exact⟨by rw[e1,e2],e3⟩
  |[],_::_,_,_=>cases hl
  |_::_,[],_,_=>cases hl
  |_,_,[],_::_=>cases hl'
  |_,_,_::_,[]=>cases hl'
 |int=>rw[vF]at e;cases e
 |bool=>rw[qY]at e;cases e
 |text=>rw[qX]at e;cases e
 |dyn=>rw[ug]at e;cases e
 |fn a b=>rw[FN]at e;cases e
 |uni l' h2=>
  have:l'≠[]:=by rintro rfl;simp at h2
  rw[Aa _ this]at e;cases e
 |ref nm h=>rw[vE]at e;exact absurd e.symm (ku h.1 h.2.1 (by decide))
theorem Cu {a:TA} (ha:RT a) (k:a.kind=1∨a.kind=2∨a.kind=3∨a.kind=8):C2 a:=fun b r r' hb e hr hr'=>by
 have hw:prT a 2≠[]∧∀c∈prT a 2,inA c bX=true:=by
  cases beg ha with
  |word _ _ hne h=>exact⟨hne,h⟩
  |dyn=>rcases k with k|k|k|k<;>cases k
  |rcd=>rcases k with k|k|k|k<;>cases k
  |par _ k'=>rcases k' with k'|k'<;>rw[k']at k<;>simp at k
 cases beg hb with
 |word _ k' hne hw'=>
  obtain⟨e1,e2⟩:=G5 hw.2 hw' hr hr' e;refine⟨?_,e2⟩
  cases ha<;>(try(rcases k with k|k|k|k<;>cases k;done))<;>cases hb<;>(try(rcases k' with k'|k'|k'|k'<;>cases k';done))<;>
   simp only[vF,qY,qX,vE]at e1<;>(try(exact absurd e1 (by decide)))<;>(try rfl)
  ·rename_i nm h;exact absurd e1.symm h.2.2.1
  ·rename_i nm h;exact absurd e1.symm h.2.2.2.1
  ·rename_i nm h;exact absurd e1.symm h.2.2.2.2
  ·rename_i nm h;exact absurd e1 h.2.2.1
  ·rename_i nm h;exact absurd e1 h.2.2.2.1
  ·rename_i nm h;exact absurd e1 h.2.2.2.2
  ·rw[e1]
 |dyn=>rw[ug]at e;exact absurd e (ku hw.1 hw.2 (by decide))
 |rcd _ _ z h=>rw[h]at e;exact absurd e (ku hw.1 hw.2 (by decide))
 |par _ _ h=>rw[h]at e;exact absurd e (ku hw.1 hw.2 (by decide))
theorem Z4 :C2 (.mk 4 [] [] []):=fun b r r' hb e hr hr'=>by
 rw[ug]at e
 cases beg hb with
 |word _ _ hne h=>exact absurd e.symm (ku hne h (by decide))
 |dyn=>rw[ug]at e;exact⟨rfl,by simpa using e⟩
 |rcd _ _ z h=>rw[h]at e;cases e
 |par _ _ h=>rw[h]at e;cases e
theorem reads {a:TA} (h:RT a):C2 a∧C1 a∧C0 a:=by
 induction h with
 |int=>have h:=RT.int;have c2:=Cu h (.inl rfl);have c1:=qI h (by decide) c2;exact⟨c2,c1,qJ h (by decide) c1⟩
 |bool=>have h:=RT.bool;have c2:=Cu h (.inr (.inl rfl));have c1:=qI h (by decide) c2;exact⟨c2,c1,qJ h (by decide) c1⟩
 |text=>have h:=RT.text;have c2:=Cu h (.inr (.inr (.inl rfl)));have c1:=qI h (by decide) c2;exact⟨c2,c1,qJ h (by decide) c1⟩
 |dyn=>have h:=RT.dyn;have c2:=Z4;have c1:=qI h (by decide) c2;exact⟨c2,c1,qJ h (by decide) c1⟩
 |ref nm hn=>have h:=RT.ref nm hn;have c2:=Cu h (.inr (.inr (.inr rfl)));have c1:=qI h (by simp[TA.kind]) c2;exact⟨c2,c1,qJ h (by simp[TA.kind]) c1⟩
 |rcd ns l hs hl hn hr ih=>
  have h:=RT.rcd ns l hs hl hn hr;have c2:=Z0 hl hn fun t ht=>(ih t ht).2.2
  have c1:=qI h (by simp[TA.kind]) c2;exact⟨c2,c1,qJ h (by simp[TA.kind]) c1⟩
 |fn a b ha hb iha ihb=>
  have h:=RT.fn a b ha hb;have c1:=C1_fn iha.1 ihb.2.1;have c0:=qJ h (by simp[TA.kind]) c1;exact⟨LY h (.inl rfl) c0,c1,c0⟩
 |uni l h2 hr h7 ih=>
  have h:=RT.uni l h2 hr h7
  match l,h2 with
  |q::p::qs,_=>
   have c0:=Z5 (q:=q) (qs:=p::qs) (by simp) fun x hx=>(ih x hx).2.1
   have c2:=LY h (.inr rfl) c0;exact⟨c2,qI h (by simp[TA.kind]) c2,c0⟩
theorem Ww {a b:TA} (ha:RT a) (hb:RT b) (e:prT a 0=prT b 0):a=b:=by
 have hD:D0 []:=⟨⟨fun c z e=>(by cases e),fun z e=>(by cases e)⟩,fun z e=>(by cases e)⟩;exact((reads ha).2.2 b [] [] hb (by rw[List.append_nil,List.append_nil];exact e) hD hD).1
end Go.Ag
/- Good types, and what is made normal of them. -/
namespace Go.Ag
open Go
inductive GT :TA→Prop where
 |int:GT (.mk 1 [] [] [])
 |bool:GT (.mk 2 [] [] [])
 |text:GT (.mk 3 [] [] [])
 |dyn:GT (.mk 4 [] [] [])
 |rcd (ns:List Bytes) (l:List TA) (hs:ns.Pairwise (· < ·)) (hl:ns.length=l.length) (hn:∀n∈ns,jE n) (h:∀t∈l,GT t):GT (.mk 5 [] ns l)
 |fn (a b:TA) (ha:GT a) (hb:GT b):GT (.mk 6 [] [] [a,b])
 |uni (l:List TA) (h0:l≠[]) (h:∀t∈l,GT t):GT (.mk 7 [] [] l)
 |ref (nm:Bytes) (h:jE nm):GT (.mk 8 nm [] [])
inductive NT :TA→Prop where
 |int:NT (.mk 1 [] [] [])
 |bool:NT (.mk 2 [] [] [])
 |text:NT (.mk 3 [] [] [])
 |dyn:NT (.mk 4 [] [] [])
 |rcd (ns:List Bytes) (l:List TA) (hs:ns.Pairwise (· < ·)) (hl:ns.length=l.length) (hn:∀n∈ns,jE n) (h:∀t∈l,NT t):NT (.mk 5 [] ns l)
 |fn (a b:TA) (ha:NT a) (hb:NT b):NT (.mk 6 [] [] [a,b])
 |uni (l:List TA) (h2:2≤l.length) (h:∀t∈l,NT t) (h7:∀t∈l,t.kind≠7∧t.kind≠4) (hs:l.Pairwise fun a b=>prT a 0<prT b 0):NT (.mk 7 [] [] l)
 |ref (nm:Bytes) (h:jE nm):NT (.mk 8 nm [] [])
theorem NT.rt {t:TA} (h:NT t):RT t:=by
 induction h with
 |int=>exact .int
 |bool=>exact .bool
 |text=>exact .text
 |dyn=>exact .dyn
 |rcd ns l hs hl hn h ih=>exact .rcd ns l hs hl hn ih
 |fn a b ha hb iha ihb=>exact .fn a b iha ihb
 |uni l h2 h h7 hs ih=>exact .uni l h2 ih fun t ht=>(h7 t ht).1
 |ref nm h=>exact .ref nm h
theorem NT.gt {t:TA} (h:NT t):GT t:=by
 induction h with
 |int=>exact .int
 |bool=>exact .bool
 |text=>exact .text
 |dyn=>exact .dyn
 |rcd ns l hs hl hn h ih=>exact .rcd ns l hs hl hn ih
 |fn a b ha hb iha ihb=>exact .fn a b iha ihb
 |uni l h2 h h7 hs ih=>exact .uni l (by rintro rfl;simp at h2) ih
 |ref nm h=>exact .ref nm h
theorem NT.inj {a b:TA} (ha:NT a) (hb:NT b) (e:prT a 0=prT b 0):a=b:=Ww ha.rt hb.rt e
theorem NT.parts {t:TA} (h:NT t):∀x∈t.l,NT x:=by
 cases h with
 |rcd ns l hs hl hn h=>exact h
 |fn a b ha hb=>
  intro x hx;simp only[TA.l,List.mem_cons,List.not_mem_nil,or_false]at hx;rcases hx with rfl|rfl
  ·exact ha
  ·exact hb
 |uni l h2 h h7 hs=>exact h
 |_=>intro x hx;cases hx
theorem NT.wf {t:TA} (h:NT t):wfT t:=by
 have hL:∀{l:List TA},(∀t∈l,wfT t)→wfL l:=fun{l} hl=>by
  induction l with
  |nil=>trivial
  |cons x l ih=>exact⟨hl x (by simp),ih fun t ht=>hl t (by simp[ht])⟩
 induction h with
 |rcd ns l hs hl hn h ih=>exact⟨fun _=>by omega,fun h=>(by cases h),hL ih⟩
 |fn a b ha hb iha ihb=>exact⟨fun h=>(by cases h),fun _=>Nat.le_refl 2,iha,ihb,trivial⟩
 |uni l h2 h h7 hs ih=>exact⟨fun h=>(by cases h),fun h=>(by cases h),hL ih⟩
 |_=>exact⟨fun h=>(by cases h),fun h=>(by cases h),trivial⟩
theorem NT.yh {t:TA} (h:NT t) (h4:t.kind=4):t=bJ:=by cases h<;>first|(cases h4;done)|rfl
theorem zx {α:Type}:∀(l:List (α×Bytes)) (p:Bytes),l.Pairwise (fun a b=>a.2≤b.2)→(∀y∈l,p≤y.2)→(kM p l).Pairwise (fun a b=>a.2<b.2)∧∀y∈kM p l,p<y.2∧y∈l
 |[],p,_,_=>⟨by simp[kM],fun y hy=>by simp[kM]at hy⟩
 |x::l,p,hs,hp=>by
  obtain⟨h1,h2⟩:=List.pairwise_cons.1 hs;obtain⟨k1,k2⟩:=zx l x.2 h2 h1;rw[kM];split
  ·rename_i he
   have he:x.2=p:=by simpa using he
   exact⟨k1,fun y hy=>⟨by rw[←he];exact(k2 y hy).1,by simp[(k2 y hy).2]⟩⟩
  ·rename_i he
   have he:x.2≠p:=by simpa using he
   have hlt:p<x.2:=by
    have:=hp x (by simp)
    by_cases h:p<x.2
    ·exact h
    ·exact absurd (List.le_antisymm (List.not_lt.1 h) this) he
   refine⟨List.pairwise_cons.2 ⟨fun y hy=>(k2 y hy).1,k1⟩,fun y hy=>?_⟩;rcases List.mem_cons.1 hy with rfl|hy
   ·exact⟨hlt,by simp⟩
   ·exact⟨List.lt_trans hlt (k2 y hy).1,by simp[(k2 y hy).2]⟩
theorem BI {α:Type} {l:List (α×Bytes)} (hs:l.Pairwise fun a b=>a.2≤b.2):(gu l).Pairwise (fun a b=>a.2<b.2)∧∀y∈gu l,y∈l:=by
 cases l with
 |nil=>exact⟨by simp[gu],fun y hy=>by simp[gu]at hy⟩
 |cons x l=>
  obtain⟨h1,h2⟩:=List.pairwise_cons.1 hs;obtain⟨k1,k2⟩:=zx l x.2 h2 h1
  exact⟨List.pairwise_cons.2 ⟨fun y hy=>(k2 y hy).1,k1⟩,fun y hy=>by
   rcases List.mem_cons.1 hy with rfl|hy
   ·simp
   ·simp[(k2 y hy).2]⟩
theorem Gx {α:Type}:∀(l:List (α×Bytes)) (p:Bytes),∀y∈l,y.2=p∨∃z∈kM p l,z.2=y.2
 |x::l,p,y,hy=>by
  rw[kM];have ih:=Gx l x.2;split
  ·rename_i he
   have he:x.2=p:=by simpa using he
   rcases List.mem_cons.1 hy with rfl|hy
   ·exact .inl he
   ·rcases ih y hy with h|h
    ·exact .inl (h.trans he)
    ·exact .inr h
  ·rcases List.mem_cons.1 hy with rfl|hy
   ·exact .inr ⟨y,by simp,rfl⟩
   ·rcases ih y hy with h|⟨z,hz,h⟩
    ·exact .inr ⟨x,by simp,h.symm⟩
    ·exact .inr ⟨z,by simp[hz],h⟩
theorem Un {α:Type} {l:List (α×Bytes)}:∀y∈l,∃z∈gu l,z.2=y.2:=fun y hy=>by
 cases l with
 |nil=>cases hy
 |cons x l=>
  rcases List.mem_cons.1 hy with rfl|hy
  ·exact⟨y,by simp[gu],rfl⟩
  ·rcases Gx l x.2 y hy with h|⟨z,hz,h⟩
   ·exact⟨x,by simp[gu],h.symm⟩
   ·exact⟨z,by simp[gu,hz],h⟩
def gH (l:List TA):List TA:=(gu (l6 (eF l))).map (·.1)
theorem Ck {l:List TA}:∀p∈gu (l6 (eF l)),p.2=prT p.1 0∧p.1∈l:=fun p hp=>by
 have h1:=(BI (tT (eF l))).2 p hp;have h2:=(lV (eF l)).mem_iff.1 h1;obtain⟨t,ht,rfl⟩:=List.mem_map.1 h2;exact⟨rfl,ht⟩
theorem nR (l:List TA):(gH l).Pairwise fun a b=>prT a 0<prT b 0:=by
 unfold gH;rw[List.pairwise_map];refine(BI (tT (eF l))).1.imp_of_mem fun{a b} ha hb h=>?_
 rw[←(Ck a ha).1,←(Ck b hb).1];exact h
theorem kI {l:List TA} {t:TA} (h:t∈gH l):t∈l:=by
 obtain⟨p,hp,rfl⟩:=List.mem_map.1 h;exact(Ck p hp).2
theorem Dp {l:List TA} {t:TA} (h:t∈l):∃u∈gH l,prT u 0=prT t 0:=by
 obtain⟨z,hz,e⟩:=Un (l:=l6 (eF l)) (t,prT t 0) ((lV (eF l)).mem_iff.2 (List.mem_map.2 ⟨t,h,rfl⟩));exact⟨z.1,List.mem_map.2 ⟨z,hz,rfl⟩,by rw[←(Ck z hz).1];exact e⟩
theorem sG {l:List TA} (h:l≠[]):gH l≠[]:=by
 cases l with
 |nil=>exact absurd rfl h
 |cons t l=>
  obtain⟨u,hu,_⟩:=Dp (l:=t::l) (t:=t) (by simp);intro e;rw[e]at hu;cases hu
theorem uj {l:List TA} (hl:∀t∈l,NT t) {t:TA}:t∈gH l↔t∈l:=by
 refine⟨kI,fun h=>?_⟩;obtain⟨u,hu,e⟩:=Dp h;have:=(hl u (kI hu)).inj (hl t h) e;rw[←this];exact hu
def mO :List TA→TA
 |[t]=>t
 |l=>.mk 7 [] [] l
theorem pJ (l:List TA):mM l=match(aQ l).find? (fun t=>t.kind==4)with
  |some t=>t
  |none=>mO (gH (aQ l)):=by
 unfold mM;split
 ·rename_i t h;rw[h]
 ·rename_i h
  rw[h];unfold gH
  match gu (l6 (eF (aQ l)))with
  |[]=>rfl
  |[p]=>rfl
  |p::q::r=>rfl
theorem tq {l:List TA} {x:TA}:x∈aQ l↔∃t∈l,x∈dV t:=by unfold aQ;rw[List.mem_flatMap]
theorem FQ {t:TA} (h:NT t):(∀x∈dV t,NT x∧x.kind≠7)∧dV t≠[]:=by
 unfold dV;split
 ·rename_i h7
  cases h with
  |uni l h2 h h7' hs=>exact⟨fun x hx=>⟨h x hx,(h7' x hx).1⟩,by rintro e;simp only[TA.l]at e;subst e;simp at h2⟩
  |_=>cases h7
 ·rename_i h7
  exact⟨fun x hx=>by rw[List.mem_singleton]at hx;subst hx;exact⟨h,h7⟩,by simp⟩
theorem vR {l:List TA} (h:∀t∈l,NT t):∀x∈aQ l,NT x∧x.kind≠7:=fun x hx=>by
 obtain⟨t,ht,hx⟩:=tq.1 hx;exact(FQ (h t ht)).1 x hx
theorem KW {l:List TA} (h:∀t∈l,NT t) (h0:l≠[]):aQ l≠[]:=by
 cases l with
 |nil=>exact absurd rfl h0
 |cons t l=>
  have:=(FQ (h t (by simp))).2
  cases hp:dV t with
  |nil=>exact absurd hp this
  |cons x xs=>
   intro e;have:x∈aQ (t::l):=tq.2 ⟨t,by simp,by rw[hp];simp⟩;rw[e]at this;cases this
theorem Fj {l:List TA} (h0:l≠[]) (h:∀t∈l,NT t∧t.kind≠7∧t.kind≠4) (hs:l.Pairwise fun a b=>prT a 0<prT b 0):NT (mO l):=by
 match l,h0 with
 |[t],_=>exact(h t (by simp)).1
 |t::u::l,_=>exact .uni _ (by simp) (fun x hx=>(h x hx).1) (fun x hx=>(h x hx).2) hs
theorem PW {l:List TA} (h:∀t∈l,NT t) (h0:l≠[]):NT (mM l):=by
 rw[pJ];have hf:=vR h
 cases hd:(aQ l).find? (fun t=>t.kind==4)with
 |some t=>exact(hf t (List.mem_of_find?_eq_some hd)).1
 |none=>
  refine Fj (sG (KW h h0)) (fun t ht=>?_) (nR _);have hm:=kI ht;exact⟨(hf t hm).1,(hf t hm).2,by have:=List.find?_eq_none.1 hd t hm;simpa using this⟩
theorem jv {t:TA} (h:GT t):NT (aL t):=by
 induction h with
 |int=>rw[aL,if_neg (by decide),dN];exact .int
 |bool=>rw[aL,if_neg (by decide),dN];exact .bool
 |text=>rw[aL,if_neg (by decide),dN];exact .text
 |dyn=>rw[aL,if_neg (by decide),dN];exact .dyn
 |ref nm hn=>rw[aL,if_neg (by decide),dN];exact .ref nm hn
 |rcd ns l hs hl hn h ih=>
  rw[aL,if_neg (by decide),dW];refine .rcd ns _ hs (by rw[List.length_map];exact hl) hn fun x hx=>?_
  obtain⟨t,ht,rfl⟩:=List.mem_map.1 hx;exact ih t ht
 |fn a b ha hb iha ihb=>rw[aL,if_neg (by decide),dW];exact .fn _ _ iha ihb
 |uni l h0 h ih=>
  rw[aL,if_pos rfl,dW];refine PW (fun x hx=>?_) (by simpa using h0);obtain⟨t,ht,rfl⟩:=List.mem_map.1 hx;exact ih t ht
theorem BS {l:List TA} (hs:l.Pairwise fun a b=>prT a 0<prT b 0):gu (l6 (eF l))=eF l:=by
 have h1:l6 (eF l)=eF l:=by
  have hsl:(eF l).Pairwise fun a b=>a.2≤b.2:=by
   unfold eF;rw[List.pairwise_map];exact hs.imp fun h=>List.le_of_lt h
  exact(yK (List.Perm.refl _) hsl fun a ha b hb e=>by
   obtain⟨t,ht,rfl⟩:=List.mem_map.1 ha;obtain⟨u,hu,rfl⟩:=List.mem_map.1 hb;obtain⟨i,hi,rfl⟩:=List.getElem_of_mem ht;obtain⟨j,hj,rfl⟩:=List.getElem_of_mem hu;have hp:=List.pairwise_iff_getElem.1 hs;rcases Nat.lt_trichotomy i j with h|h|h
   ·have:=hp i j hi hj h
    dsimp only at e;rw[e]at this;exact absurd this (List.lt_irrefl _)
   ·subst h;rfl
   ·have:=hp j i hj hi h
    dsimp only at e
    rw[e]at this;exact absurd this (List.lt_irrefl _)).symm
 rw[h1]
 have key:∀(l:List TA) (p:Bytes),(∀t∈l,p<prT t 0)→l.Pairwise (fun a b=>prT a 0<prT b 0)→kM p (eF l)=eF l:=by
  intro l
  induction l with
  |nil=>intro p _ _;simp[eF,kM]
  |cons t l ih=>
   intro p hp hs;obtain⟨k1,k2⟩:=List.pairwise_cons.1 hs;have h2:=ih (prT t 0) k1 k2;unfold eF at h2⊢;rw[List.map_cons,kM,if_neg,h2];have:=hp t (by simp);simp only[beq_iff_eq]
   rintro e
   rw[e]at this;exact List.lt_irrefl _ this
 cases l with
 |nil=>simp[eF,gu]
 |cons t l=>
  obtain⟨k1,k2⟩:=List.pairwise_cons.1 hs;have:=key l (prT t 0) k1 k2;unfold eF at this⊢;rw[List.map_cons,gu,this]
theorem zo {l:List TA} (h:∀t∈l,t.kind≠7):aQ l=l:=by
 induction l with
 |nil=>rfl
 |cons t l ih=>
  have:=ih fun x hx=>h x (by simp[hx])
  unfold aQ at this⊢;rw[List.flatMap_cons,this];unfold dV;rw[if_neg (h t (by simp))];rfl
theorem eY {t:TA} (h:NT t):aL t=t:=by
 induction h with
 |int=>rw[aL,if_neg (by decide),dN]
 |bool=>rw[aL,if_neg (by decide),dN]
 |text=>rw[aL,if_neg (by decide),dN]
 |dyn=>rw[aL,if_neg (by decide),dN]
 |ref nm hn=>rw[aL,if_neg (by decide),dN]
 |rcd ns l hs hl hn h ih=>
  rw[aL,if_neg (by decide),dW]
  congr 1
  exact(List.map_congr_left (g:=id) ih).trans (List.map_id l)
 |fn a b ha hb iha ihb=>rw[aL,if_neg (by decide),dW];simp[iha,ihb]
 |uni l h2 h h7 hs ih=>
  have e1:l.map aL=l:=(List.map_congr_left (g:=id) ih).trans (List.map_id l);rw[aL,if_pos rfl,dW,e1,pJ,zo fun t ht=>(h7 t ht).1];have e2:l.find? (fun t=>t.kind==4)=none:=List.find?_eq_none.2 fun t ht=>by have:=(h7 t ht).2;simpa using this
  rw[e2]
  have e3:gH l=l:=by
   unfold gH;rw[BS hs];unfold eF;rw[List.map_map];exact(List.map_congr_left (g:=id) fun x _=>rfl).trans (List.map_id l)
  dsimp only;rw[e3]
  match l,h2 with
  |t::u::l,_=>rfl
end Go.Ag
/- How much good types are; that they can be made normal. -/
namespace Go.Ag
open Go
theorem tK (l:List TA):wtL l=(l.map fun t=>wtT t+8).sum:=by
 induction l with
 |nil=>rfl
 |cons t l ih=>rw[wtL,List.map_cons,List.sum_cons,ih]
theorem tL (l m:List TA):wtL (l ++m)=wtL l+wtL m:=by simp[tK]
theorem BP (t:TA):wtL t.l+16≤wtT t:=by obtain⟨k,nm,ns,l⟩:=t;rw[wtT];simp only[TA.l];omega
theorem yG (t:TA):wtL (dV t)≤wtT t+8:=by
 unfold dV;have:=BP t;split
 ·omega
 ·rw[wtL,wtL];omega
theorem NS (l:List TA):wtL (aQ l)≤wtL l:=by
 induction l with
 |nil=>exact Nat.le_refl _
 |cons t l ih=>
  have h1:aQ (t::l)=dV t ++aQ l:=by unfold aQ;rw[List.flatMap_cons]
  rw[h1,tL,wtL];have:=yG t;omega
theorem Gw {α:Type}:∀(l:List (α×Bytes)) (p:Bytes),(kM p l).Sublist l
 |[],p=>by simp[kM]
 |x::l,p=>by
  rw[kM];have:=Gw l x.2;split
  ·exact this.cons _
  ·exact this.cons_cons _
theorem Et {α:Type} (l:List (α×Bytes)):(gu l).Sublist l:=by
 cases l with
 |nil=>simp[gu]
 |cons x l=>exact(Gw l x.2).cons_cons _
theorem AZ {α:Type} (f:α→Nat) {l m:List α} (h:l.Sublist m):(l.map f).sum≤(m.map f).sum:=by
 induction h with
 |slnil=>exact Nat.le_refl _
 |cons x h ih=>rw[List.map_cons,List.sum_cons];omega
 |cons_cons x h ih=>rw[List.map_cons,List.map_cons,List.sum_cons,List.sum_cons];omega
theorem PO (l:List TA):wtL (gH l)≤wtL l:=by
 unfold gH;rw[tK,List.map_map];have h1:=AZ (fun p:TA×Bytes=>wtT p.1+8) (Et (l6 (eF l)));have h2:=((lV (eF l)).map fun p:TA×Bytes=>wtT p.1+8).sum_nat
 have h3:((eF l).map fun p:TA×Bytes=>wtT p.1+8).sum=wtL l:=by
  unfold eF;rw[List.map_map,tK];rfl
 have h4:((gu (l6 (eF l))).map ((fun t=>wtT t+8)∘fun x=>x.1)).sum=((gu (l6 (eF l))).map fun p:TA×Bytes=>wtT p.1+8).sum:=rfl;omega
theorem PN (l:List TA):wtT (mM l)≤16+wtL l:=by
 rw[pJ];have hf:=NS l;split
 ·rename_i t h
  have:=iR (List.mem_of_find?_eq_some h);omega
 ·have hp:=PO (aQ l)
  generalize gH (aQ l)=m at hp
  match m with
  |[]=>simp only[mO];rw[wtT];simp[wtL]
  |[t]=>simp only[mO];rw[wtL,wtL]at hp;omega
  |t::u::m=>simp only[mO];rw[wtT];simp only[List.length_nil,List.map_nil,List.sum_nil];omega
theorem NQ :∀(n:Nat) (t:TA),wtT t≤n→wtT (aL t)≤wtT t
 |0,t,h=>by have:=BP t;omega
 |n+1,t,h=>by
  have ih:=NQ n;obtain⟨k,nm,ns,l⟩:=t;rw[wtT]at h
  have hl:wtL (dN l)≤wtL l:=by
   have hm:∀t∈l,wtT t≤n:=fun t ht=>by have:=iR ht;omega
   clear h
   induction l with
   |nil=>rw[dN];exact Nat.le_refl _
   |cons t l ihl=>
    rw[dN,wtL,wtL];have h1:=ih t (hm t (by simp));have h2:=ihl fun x hx=>hm x (by simp[hx])
    omega
  rw[aL];split
  ·have:=PN (dN l)
   rw[wtT];omega
  ·rw[wtT,wtT];omega
theorem jm (t:TA):wtT (aL t)≤wtT t:=NQ _ t (Nat.le_refl _)
theorem RP (l:List TA):wtL (dN l)≤wtL l:=by
 induction l with
 |nil=>rw[dN];exact Nat.le_refl _
 |cons t l ih=>rw[dN,wtL,wtL];have:=jm t;omega
theorem YC (ns:List Bytes):ns.length≤(ns.map fun n=>n.length+4).sum:=by
 induction ns with
 |nil=>exact Nat.le_refl _
 |cons n ns ih=>rw[List.map_cons,List.sum_cons,List.length_cons];omega
theorem JZ {l:List TA} (h:∀t∈l,NT t) (hl:l.length≤2^30) (hp:∀t∈l,wtT t≤2^30) (ha:(aQ l).length≤2^30):I9 l:=by
 have hm:∀t∈aQ l,∃u∈l,wtT t≤wtT u+8:=fun t ht=>by
  obtain⟨u,hu,hx⟩:=tq.1 ht;have h1:=iR hx;have h2:=yG u;exact⟨u,hu,by omega⟩
 refine⟨hl,fun t ht=>?_,ha,fun t ht=>?_,fun t ht=>(vR h t ht).1.wf,fun a ha b hb e=>(vR h a ha).1.inj (vR h b hb).1 e⟩
 ·have h1:=hp t ht
  have h2:=BP t;have h3:=rz t.l;omega
 ·obtain⟨u,hu,h1⟩:=hm t ht
  have:=hp u hu;omega
theorem Ac {t:TA} (h:GT t):wtT t≤2^30→okN t:=by
 have hL:∀{l:List TA},(∀t∈l,okN t)→Qr l:=fun{l} hl=>by
  induction l with
  |nil=>trivial
  |cons x l ih=>exact⟨hl x (by simp),ih fun t ht=>hl t (by simp[ht])⟩
 have hlt:∀{l:List TA} {t:TA} {n:Nat},t∈l→wtL l≤n→wtT t≤n:=fun ht hn=>by have:=iR ht;omega
 induction h with
 |int=>intro _;exact⟨by simp,by simp,trivial,fun h=>by cases h⟩
 |bool=>intro _;exact⟨by simp,by simp,trivial,fun h=>by cases h⟩
 |text=>intro _;exact⟨by simp,by simp,trivial,fun h=>by cases h⟩
 |dyn=>intro _;exact⟨by simp,by simp,trivial,fun h=>by cases h⟩
 |ref nm hn=>intro _;exact⟨by simp,by simp,trivial,fun h=>by cases h⟩
 |rcd ns l hs hl hn h ih=>
  intro hw;rw[wtT]at hw;have h1:=rz l;have h2:=YC ns;exact⟨by omega,by omega,hL fun t ht=>ih t ht (hlt ht (by omega)),fun h=>by cases h⟩
 |fn a b ha hb iha ihb=>
  intro hw;rw[wtT,wtL,wtL,wtL]at hw;exact⟨by simp,by simp,⟨iha (by omega),ihb (by omega),trivial⟩,fun h=>by cases h⟩
 |uni l h0 h ih=>
  intro hw;rw[wtT]at hw;have h1:=rz l;have h3:=RP l;have h4:=NS (dN l);have h5:=rz (aQ (dN l));refine⟨by omega,by simp,hL fun t ht=>ih t ht (hlt ht (by omega)),fun _=>JZ (fun t ht=>?_) (by rw[dW,List.length_map];omega) (fun t ht=>hlt ht (by omega)) (by omega)⟩;rw[dW]at ht;obtain⟨u,hu,rfl⟩:=List.mem_map.1 ht;exact jv (h u hu)
theorem J9 {l:List TA} (h:∀t∈l,NT t) (hl:l.length≤2^30) (hw:∀t∈l,wtT t≤2^30) (ha:(aQ l).length≤2^30):okN (.mk 7 [] [] l):=by
 have hL:∀{l:List TA},(∀t∈l,okN t)→Qr l:=fun{l} hl=>by
  induction l with
  |nil=>trivial
  |cons x l ih=>exact⟨hl x (by simp),ih fun t ht=>hl t (by simp[ht])⟩
 have e1:dN l=l:=by rw[dW];exact(List.map_congr_left (g:=id) fun t ht=>eY (h t ht)).trans (List.map_id l)
 exact⟨hl,by simp,hL fun t ht=>Ac (h t ht).gt (hw t ht),fun _=>by rw[e1];exact JZ h hl hw ha⟩
theorem DY {l:List TA} (h:∀t∈l,NT t∧t.kind≠7) (h0:l≠[]):
  mh l=(match l.find? (fun t=>t.kind==4)with
   |some t=>t
   |none=>mO (gH l)):=by
 unfold mh;have e1:dN l=l:=by rw[dW];exact(List.map_congr_left (g:=id) fun t ht=>eY (h t ht).1).trans (List.map_id l)
 rw[aL,if_pos rfl,e1,pJ,zo fun t ht=>(h t ht).2]
 try rfl
def nV (l:List TA):List TA:=if l.any (fun t=>t.kind==4)then[bJ]else gH l
theorem Ea {l:List TA} (h:∀t∈l,NT t∧t.kind≠7) (h0:l≠[]):Ar (mh l)=nV l:=by
 have hj:=DY h h0;unfold nV
 cases hd:l.find? (fun t=>t.kind==4)with
 |some t=>
  rw[hd]at hj;have h4:t.kind=4:=by simpa using List.find?_some (p:=fun t:TA=>t.kind==4) hd
  have hm:=List.mem_of_find?_eq_some hd;have:=(h t hm).1.yh h4;subst this;rw[if_pos (List.any_eq_true.2 ⟨bJ,hm,rfl⟩),hj];rfl
 |none=>
  rw[hd]at hj;have hj:mh l=mO (gH l):=hj
  have hn:l.any (fun t=>t.kind==4)=false:=by
   rw[List.any_eq_false];exact List.find?_eq_none.1 hd
  rw[hn,if_neg (by simp),hj];have hmem:∀t∈gH l,t.kind≠7:=fun t ht=>(h t (kI ht)).2
  have hne:=sG h0;generalize gH l=m at hmem hne;unfold Ar
  match m,hne with
  |[t],_=>exact if_neg (hmem t (by simp))
  |t::u::m,_=>rfl
theorem KD {l:List TA} {t:TA} (h:t∈nV l):t=bJ∨t∈l:=by
 unfold nV at h;split at h
 ·rw[List.mem_singleton]at h;exact .inl h
 ·exact .inr (kI h)
end Go.Ag
/- The judge's answer, in plain Lean: it holds just if some sound relation holds. -/
namespace Go.Ag
open Go
section
variable (G : TA → Prop) (hd : TA → List TA) (tx : TA → Bytes) (loose : Bool)
def jF (R:TA→TA→Prop) (x y:TA):Prop:=
 if x.kind=5 then∀p∈y.names.zip y.l,p.1∈x.names∧R (x.l[ni x.names p.1]?.getD default) p.2
 else∃x0 x1 y0 y1,x.l=[x0,x1]∧y.l=[y0,y1]∧R y0 x0∧R x1 y1
def I8 (B:TA→TA→Prop) (x y:TA):Prop:=
 ((x.kind=4∨y.kind=4)∧(loose||x.kind==y.kind)=true)∨(¬(x.kind=4∨y.kind=4)∧x.kind=y.kind∧((x.kind≠5∧x.kind≠6)∨B x y))
def kQ (B:TA→TA→Prop) (a b:TA):Prop:=∀x∈hd a,∃y∈hd b,I8 loose B x y
def ZW (R:TA→TA→Prop):Prop:=∀a b,R a b→G a∧G b∧kQ hd loose (jF R) a b
def LE (a b:TA):Prop:=∃R,ZW G hd loose R∧R a b
def onP (P:List (Bytes×Bytes)) (x y:TA):Prop:=(tx x,tx y)∈P
def PI (P:List (Bytes×Bytes)) (π:Bytes×Bytes):Prop:=
 ∃a b x y,G a∧G b∧x∈hd a∧y∈hd b∧π=(tx x,tx y)∧jF (kQ hd loose (onP tx P)) x y
end
theorem jF.mono {R R':TA→TA→Prop} (h:∀a b,R a b→R' a b) {x y:TA} (hb:jF R x y):jF R' x y:=by
 unfold jF at hb⊢;split at hb
 ·rename_i h5
  rw[if_pos h5];exact fun p hp=>⟨(hb p hp).1,h _ _ (hb p hp).2⟩
 ·rename_i h5
  rw[if_neg h5];obtain⟨x0,x1,y0,y1,e1,e2,h1,h2⟩:=hb;exact⟨x0,x1,y0,y1,e1,e2,h _ _ h1,h _ _ h2⟩
theorem I8.mono {loose:Bool} {B B':TA→TA→Prop} {x y:TA} (h:B x y→B' x y) (hu:I8 loose B x y):I8 loose B' x y:=by
 rcases hu with h1|⟨h1,h2,h3⟩
 ·exact .inl h1
 ·exact .inr ⟨h1,h2,h3.imp id h⟩
theorem kQ.mono {hd:TA→List TA} {loose:Bool} {B B':TA→TA→Prop} (h:∀x y,B x y→B' x y) {a b:TA} (hh:kQ hd loose B a b):kQ hd loose B' a b:=fun x hx=>
 let⟨y,hy,hu⟩:=hh x hx
 ⟨y,hy,hu.mono (h x y)⟩
variable {G : TA → Prop} {hd : TA → List TA} {tx : TA → Bytes} {loose : Bool}
theorem PI.mono {P P':List (Bytes×Bytes)} (h:∀π∈P,π∈P') {π:Bytes×Bytes} (hj:PI G hd tx loose P π):PI G hd tx loose P' π:=by
 obtain⟨a,b,x,y,h1,h2,h3,h4,h5,h6⟩:=hj;exact⟨a,b,x,y,h1,h2,h3,h4,h5,h6.mono fun _ _ hh=>hh.mono fun x y hp=>h _ hp⟩
def jB (G:TA→Prop) (hd:TA→List TA) (tx:TA→Bytes) (loose:Bool) (S S':TrS):Prop:=
 S'.ok∧∃z,S'.cur=S.cur ++z∧∀π∈z,PI G hd tx loose S'.cur π
theorem jB.refl {S:TrS} (h:S.ok):jB G hd tx loose S S:=⟨h,[],by simp,fun π hp=>by cases hp⟩
theorem jB.sub {S S':TrS} (h:jB G hd tx loose S S'):∀π∈S.cur,π∈S'.cur:=fun π hp=>by
 obtain⟨_,z,e,_⟩:=h;rw[e];exact List.mem_append_left _ hp
theorem jB.trans {S S' S'':TrS} (h:jB G hd tx loose S S') (h':jB G hd tx loose S' S''):jB G hd tx loose S S'':=by
 have hs:=h'.sub;obtain⟨o1,z,e1,j1⟩:=h;obtain⟨o2,z',e2,j2⟩:=h';refine⟨o2,z ++z',by rw[e2,e1,List.append_assoc],fun π hp=>?_⟩;rcases List.mem_append.1 hp with hp|hp
 ·exact(j1 π hp).mono hs
 ·exact j2 π hp
theorem IU {S:TrS} (h:S.ok):S.cur.length=S.len:=by unfold TrS.cur;rw[List.length_take];have:=h.1;omega
theorem JU {S:TrS} (h:S.ok) (p:Bytes×Bytes):(S.push p).cur=S.cur ++[p]:=by
 obtain⟨v,xs,len⟩:=S;obtain⟨h1,h2⟩:=h
 cases v with
 |zero=>
  have:len=0:=h2 rfl;subst this;rfl
 |succ v=>
  show(xs.take len ++[p]).take (len+1)=xs.take len ++[p];have h1:len≤xs.length:=h1;rw[List.take_of_length_le];simp;omega
theorem OZ {S S':TrS} (h:S.ok) {z:List (Bytes×Bytes)} (e:S'.cur=S.cur ++z) (hok:S'.ok):S.len≤S'.len∧(S'.cut S.len).cur=S.cur:=by
 have l1:=IU h;have l2:=IU hok;rw[e,List.length_append,l1]at l2;refine⟨by omega,?_⟩;show S'.xs.take S.len=S.cur;have:S'.cur.take S.len=S.cur:=by rw[e,←l1,List.take_left]
 rw[←this];unfold TrS.cur;rw[List.take_take]
 congr 1;omega
structure zO (G:TA→Prop) (hd:TA→List TA) (tx:TA→Bytes) (loose:Bool) (rel:TrS→TA→TA→Option (Bool×TrS)):Prop where
 grows:∀S a b r S',S.ok→G a→G b→rel S a b=some (r,S')→jB G hd tx loose S S'
 yes:∀S a b S',S.ok→G a→G b→rel S a b=some (true,S')→kQ hd loose (onP tx S'.cur) a b
 no:∀S a b S',S.ok→G a→G b→rel S a b=some (false,S')→¬LE G hd loose a b
theorem wM {σ α:Type} {st:σ→α→Option (Bool×σ)} {I:σ→Prop} {Gr:σ→σ→Prop} (hr:∀s,I s→Gr s s) (ht:∀a b c,Gr a b→Gr b c→Gr a c):∀(l:List α),(∀s x b s',x∈l→I s→st s x=some (b,s')→I s'∧Gr s s')→∀s b s',I s→iB st s l=some (b,s')→
  I s'∧Gr s s'∧(b=true→∀x∈l,∃s1 s2,I s1∧st s1 x=some (true,s2)∧Gr s2 s')∧(b=false→∃x∈l,∃s1,I s1∧st s1 x=some (false,s'))
 |[],_,s,b,s',h,e=>by cases e;exact⟨h,hr _ h,fun _ x hx=>(by cases hx),fun h=>(by cases h)⟩
 |x::l,hs,s,b,s',h,e=>by
  rw[iB]at e
  cases hq:st s x with
  |none=>rw[hq]at e;cases e
  |some q=>
   obtain⟨c,s2⟩:=q;rw[hq]at e;obtain⟨i2,g2⟩:=hs s x c s2 (by simp) h hq;cases c
   ·cases e
    exact⟨i2,g2,fun h=>(by cases h),fun _=>⟨x,by simp,s,h,hq⟩⟩
   ·obtain⟨i3,g3,y3,n3⟩:=wM hr ht l (fun s x b s' hx=>hs s x b s' (by simp[hx])) s2 b s' i2 e
    refine⟨i3,ht _ _ _ g2 g3,fun hb z hz=>?_,fun hb=>?_⟩
    ·rcases List.mem_cons.1 hz with rfl|hz
     ·exact⟨s,s2,h,hq,g3⟩
     ·exact y3 hb z hz
    ·obtain⟨z,hz,rest⟩:=n3 hb
     exact⟨z,by simp[hz],rest⟩
theorem LD {σ α:Type} {st:σ→α→Option (Bool×σ)} {I:σ→Prop} {Gr:σ→σ→Prop} (hr:∀s,I s→Gr s s) (ht:∀a b c,Gr a b→Gr b c→Gr a c):∀(l:List α),(∀s x b s',x∈l→I s→st s x=some (b,s')→I s'∧Gr s s')→∀s b s',I s→qF st s l=some (b,s')→
  I s'∧Gr s s'∧(b=true→∃x∈l,∃s1,I s1∧st s1 x=some (true,s'))∧(b=false→∀x∈l,∃s1 s2,I s1∧st s1 x=some (false,s2))
 |[],_,s,b,s',h,e=>by cases e;exact⟨h,hr _ h,fun h=>(by cases h),fun _ x hx=>by cases hx⟩
 |x::l,hs,s,b,s',h,e=>by
  rw[qF]at e
  cases hq:st s x with
  |none=>rw[hq]at e;cases e
  |some q=>
   obtain⟨c,s2⟩:=q;rw[hq]at e;obtain⟨i2,g2⟩:=hs s x c s2 (by simp) h hq;cases c
   ·obtain⟨i3,g3,y3,n3⟩:=LD hr ht l (fun s x b s' hx=>hs s x b s' (by simp[hx])) s2 b s' i2 e
    refine⟨i3,ht _ _ _ g2 g3,fun hb=>?_,fun hb z hz=>?_⟩
    ·obtain⟨z,hz,rest⟩:=y3 hb
     exact⟨z,by simp[hz],rest⟩
    ·rcases List.mem_cons.1 hz with rfl|hz
     ·exact⟨s,s2,h,hq⟩
     ·exact n3 hb z hz
   ·cases e
    exact⟨i2,g2,fun _=>⟨x,by simp,s,h,hq⟩,fun h=>by cases h⟩
structure ng (G:TA→Prop) (hd:TA→List TA):Prop where
 sub:∀t,G t→∀h∈hd t,∀x∈h.l,G x
 fn:∀t,G t→∀h∈hd t,h.kind=6→∃a b,h.l=[a,b]
 rcd:∀t,G t→∀h∈hd t,h.kind=5→h.names.length=h.l.length∧h.names.Pairwise (· < ·)
theorem ng.at {G:TA→Prop} {hd:TA→List TA} (H:ng G hd) {t h:TA} (ht:G t) (hh:h∈hd t) (h5:h.kind=5) {nm:Bytes} (hm:nm∈h.names):G (h.l[ni h.names nm]?.getD default):=by
 obtain⟨h1,h2⟩:=H.rcd t ht h hh h5;have h3:=(DF h2).2 hm;have h4:=(List.getElem?_eq_some_iff.1 h3).1;have h6:ni h.names nm<h.l.length:=by omega
 rw[List.getElem?_eq_getElem h6];exact H.sub t ht h hh _ (List.getElem_mem h6)
theorem JR {rel:TrS→TA→TA→Option (Bool×TrS)} (A:zO G hd tx loose rel) (H:ng G hd) {a b x y:TA} (ha:G a) (hb:G b) (hx:x∈hd a) (hy:y∈hd b) (h5:x.kind=5) {S:TrS} {r:Bool} {S':TrS} (hS:S.ok) (h:EU rel S x y=some (r,S')):
  jB G hd tx loose S S'∧(r=true→jF (kQ hd loose (onP tx S'.cur)) x y)∧(r=false→¬jF (LE G hd loose) x y):=by
 have hstep:∀s p b' s',p∈y.names.zip y.l→TrS.ok s→(if p.1∈x.names then rel s (x.l[ni x.names p.1]?.getD default) p.2 else some (false,s))=some (b',s')→TrS.ok s'∧jB G hd tx loose s s':=fun s p b' s' hp hs he=>by
  split at he
  ·rename_i hm
   have hg:=A.grows _ _ _ _ _ hs (H.at ha hx h5 hm) (H.sub b hb y hy _ (List.of_mem_zip hp).2) he;exact⟨hg.1,hg⟩
  ·cases he;exact⟨hs,jB.refl hs⟩
 obtain⟨_,hg,hyes,hno⟩:=wM (I:=TrS.ok) (Gr:=jB G hd tx loose) (fun s hs=>jB.refl hs) (fun _ _ _ h h'=>h.trans h') _ hstep _ _ _ hS h;refine⟨hg,fun hr=>?_,fun hr hbody=>?_⟩
 ·unfold jF
  rw[if_pos h5];intro p hp;obtain⟨s1,s2,i1,e1,g1⟩:=hyes hr p hp;split at e1
  ·rename_i hm
   exact⟨hm,(A.yes _ _ _ _ i1 (H.at ha hx h5 hm) (H.sub b hb y hy _ (List.of_mem_zip hp).2) e1).mono fun x y hp=>g1.sub _ hp⟩
  ·cases e1
 ·unfold jF at hbody
  rw[if_pos h5]at hbody;obtain⟨p,hp,s1,i1,e1⟩:=hno hr;obtain⟨hm,hle⟩:=hbody p hp;rw[if_pos hm]at e1;exact A.no _ _ _ _ i1 (H.at ha hx h5 hm) (H.sub b hb y hy _ (List.of_mem_zip hp).2) e1 hle
theorem TQ {rel:TrS→TA→TA→Option (Bool×TrS)} (A:zO G hd tx loose rel) (H:ng G hd) {a b x y:TA} (ha:G a) (hb:G b) (hx:x∈hd a) (hy:y∈hd b) (h5:¬x.kind=5) {S:TrS} {r:Bool} {S':TrS} (hS:S.ok) (h:Ay rel S x y=some (r,S')):
  jB G hd tx loose S S'∧(r=true→jF (kQ hd loose (onP tx S'.cur)) x y)∧(r=false→¬jF (LE G hd loose) x y):=by
 unfold Ay at h;split at h
 ·rename_i y0 y1 x0 x1 ey ex
  have g0:G x0:=H.sub a ha x hx _ (by rw[ex];simp);have g1:G x1:=H.sub a ha x hx _ (by rw[ex];simp);have k0:G y0:=H.sub b hb y hy _ (by rw[ey];simp);have k1:G y1:=H.sub b hb y hy _ (by rw[ey];simp)
  have hno:¬(LE G hd loose y0 x0∧LE G hd loose x1 y1)→¬jF (LE G hd loose) x y:=fun hn hbody=>by
   unfold jF at hbody;rw[if_neg h5]at hbody;obtain⟨_,_,_,_,e1,e2,h1,h2⟩:=hbody;rw[ex]at e1;rw[ey]at e2;cases e1;cases e2;exact hn ⟨h1,h2⟩
  split at h
  ·cases h
  ·rename_i hq
   cases h;exact⟨A.grows _ _ _ _ _ hS k0 g0 hq,fun h=>(by cases h),fun _=>hno fun hh=>A.no _ _ _ _ hS k0 g0 hq hh.1⟩
  ·rename_i S2 hq
   have hg:=A.grows _ _ _ _ _ hS k0 g0 hq;have hg2:=A.grows _ _ _ _ _ hg.1 g1 k1 h;refine⟨hg.trans hg2,fun hr=>?_,fun hr=>hno fun hh=>?_⟩
   ·subst hr
    unfold jF;rw[if_neg h5];exact⟨x0,x1,y0,y1,ex,ey,(A.yes _ _ _ _ hS k0 g0 hq).mono fun x y hp=>hg2.sub _ hp,A.yes _ _ _ _ hg.1 g1 k1 h⟩
   ·subst hr
    exact A.no _ _ _ _ hg.1 g1 k1 h hh.2
 ·cases h
theorem CK {rel:TrS→TA→TA→Option (Bool×TrS)} (A:zO G hd tx loose rel) (H:ng G hd) {a b x y:TA} (ha:G a) (hb:G b) (hx:x∈hd a) (hy:y∈hd b) {S:TrS} {r:Bool} {S':TrS} (hS:S.ok) (h:rP tx loose rel S x y=some (r,S')):
  jB G hd tx loose S S'∧(r=true→I8 loose (onP tx S'.cur) x y)∧(r=false→¬I8 loose (jF (LE G hd loose)) x y):=by
 unfold rP at h;split at h
 ·rename_i h4
  cases h;refine⟨jB.refl hS,fun hr=>.inl ⟨h4,hr⟩,fun hr hu=>?_⟩;rcases hu with hu|hu
  ·rw[hr]at hu;exact absurd hu.2 (by simp)
  ·exact hu.1 h4
 rename_i h4;split at h
 ·rename_i hk
  cases h;refine⟨jB.refl hS,fun hr=>(by cases hr),fun _ hu=>?_⟩;rcases hu with hu|hu
  ·exact h4 hu.1
  ·exact hk hu.2.1
 rename_i hk;have hk:x.kind=y.kind:=Decidable.not_not.1 hk;split at h
 ·rename_i h7
  cases h;exact⟨jB.refl hS,fun _=>.inr ⟨h4,hk,.inl h7⟩,fun hr=>by cases hr⟩
 rename_i h7;split at h
 ·cases h
 split at h
 ·rename_i hc
  cases h;exact⟨jB.refl hS,fun _=>.inr ⟨h4,hk,.inr (by simpa[onP]using hc)⟩,fun hr=>by cases hr⟩
 rename_i hc;have QM:=TrS.Cc hS (tx x,tx y);have hpc:=JU hS (tx x,tx y)
 have hrun:∀r S',(if x.kind=5 then EU rel (S.push (tx x,tx y)) x y else Ay rel (S.push (tx x,tx y)) x y)=some (r,S')→
   jB G hd tx loose (S.push (tx x,tx y)) S'∧(r=true→jF (kQ hd loose (onP tx S'.cur)) x y)∧(r=false→¬jF (LE G hd loose) x y):=fun r S' h=>by
  split at h
  ·rename_i h5
   exact JR A H ha hb hx hy h5 QM h
  ·rename_i h5
   exact TQ A H ha hb hx hy h5 QM h
 split at h
 ·cases h
 ·rename_i S2 hq
  cases h;obtain⟨⟨ok2,z,e2,j2⟩,hyes,_⟩:=hrun _ _ hq;rw[hpc,List.append_assoc]at e2;refine⟨⟨ok2,_,e2,fun π hp=>?_⟩,fun _=>.inr ⟨h4,hk,.inr ?_⟩,fun hr=>by cases hr⟩
  ·rcases List.mem_append.1 hp with hp|hp
   ·rw[List.mem_singleton]at hp
    subst hp;exact⟨a,b,x,y,ha,hb,hx,hy,rfl,hyes rfl⟩
   ·exact j2 π hp
  ·show(tx x,tx y)∈S'.cur
   rw[e2];simp
 ·rename_i S2 hq
  obtain⟨⟨ok2,z,e2,j2⟩,_,hno⟩:=hrun _ _ hq;rw[hpc,List.append_assoc]at e2;split at h
  ·rename_i hle
   cases h;obtain⟨_,hcut⟩:=OZ hS e2 ok2;refine⟨⟨TrS.Nu ok2 hle,[],by rw[hcut,List.append_nil],fun π hp=>by cases hp⟩,fun hr=>(by cases hr),fun _ hu=>?_⟩;rcases hu with hu|hu
   ·exact h4 hu.1
   ·rcases hu.2.2 with hu|hu
    ·exact h7 hu
    ·exact hno rfl hu
  ·cases h
theorem Dl (H:ng G hd):∀n,zO G hd tx loose (qL hd tx loose n)
 |0=>⟨fun _ _ _ _ _ _ _ _ h=>(by rw[qL]at h;cases h),fun _ _ _ _ _ _ _ h=>(by rw[qL]at h;cases h),fun _ _ _ _ _ _ _ h=>(by rw[qL]at h;cases h)⟩
 |n+1=>by
  have A:=Dl H n
  have key:∀S a b r S',S.ok→G a→G b→qL hd tx loose (n+1) S a b=some (r,S')→jB G hd tx loose S S'∧(r=true→kQ hd loose (onP tx S'.cur) a b)∧(r=false→¬LE G hd loose a b):=by
   intro S a b r S' hS ha hb h;rw[qL]at h
   have hany:∀x∈hd a,∀s b' s',TrS.ok s→qF (fun S y=>rP tx loose (qL hd tx loose n) S x y) s (hd b)=some (b',s')→_:=fun x hx s b' s' hs he=>
    LD (I:=TrS.ok) (Gr:=jB G hd tx loose) (fun s hs=>jB.refl hs) (fun _ _ _ h h'=>h.trans h') (hd b) (fun s y b' s' hy hs he=>by
     have:=CK A H ha hb hx hy hs he
     exact⟨this.1.1,this.1⟩) s b' s' hs he
   obtain⟨_,hg,hyes,hno⟩:=wM (I:=TrS.ok) (Gr:=jB G hd tx loose) (fun s hs=>jB.refl hs) (fun _ _ _ h h'=>h.trans h') (hd a) (fun s x b' s' hx hs he=>by
    have:=hany x hx s b' s' hs he
    exact⟨this.1,this.2.1⟩) S r S' hS h
   refine⟨hg,fun hr x hx=>?_,fun hr hle=>?_⟩
   ·obtain⟨s1,s2,i1,e1,g1⟩:=hyes hr x hx
    obtain⟨_,_,hy,_⟩:=hany x hx s1 true s2 i1 e1;obtain⟨y,hym,s3,i3,e3⟩:=hy rfl;have:=(CK A H ha hb hx hym i3 e3).2.1 rfl;exact⟨y,hym,this.mono fun hp=>g1.sub _ hp⟩
   ·obtain⟨x,hx,s1,i1,e1⟩:=hno hr
    obtain⟨_,_,_,hn⟩:=hany x hx s1 false S' i1 e1;obtain⟨R,hs,hab⟩:=hle;obtain⟨_,_,hh⟩:=hs a b hab;obtain⟨y,hy,hu⟩:=hh x hx;obtain⟨s2,s3,i2,e2⟩:=hn rfl y hy;exact(CK A H ha hb hx hy i2 e2).2.2 rfl (hu.mono fun hb=>hb.mono fun a b hr=>⟨R,hs,hr⟩)
  exact⟨fun S a b r S' hS ha hb h=>(key S a b r S' hS ha hb h).1,fun S a b S' hS ha hb h=>(key S a b true S' hS ha hb h).2.1 rfl,fun S a b S' hS ha hb h=>(key S a b false S' hS ha hb h).2.2 rfl⟩
theorem Bw (H:ng G hd) (hinj:∀a b x y,G a→G b→x∈hd a→y∈hd b→tx x=tx y→x=y) {n:Nat} {a b:TA} {r:Bool} {S':TrS} (ha:G a) (hb:G b) (h:qL hd tx loose n ⟨0,[],0⟩ a b=some (r,S')):r=true↔LE G hd loose a b:=by
 have A:=Dl (tx:=tx) (loose:=loose) H n;have h0:TrS.ok ⟨0,[],0⟩:=⟨Nat.le_refl _,fun _=>rfl⟩;refine⟨fun hr=>?_,fun hle=>?_⟩
 ·subst hr
  obtain⟨ok',z,e,j⟩:=A.grows _ _ _ _ _ h0 ha hb h;have e:S'.cur=z:=e;have hall:=A.yes _ _ _ _ h0 ha hb h;refine⟨fun a b=>G a∧G b∧kQ hd loose (onP tx S'.cur) a b,fun a b ⟨ga,gb,hh⟩=>⟨ga,gb,fun x hx=>?_⟩,ha,hb,hall⟩;obtain⟨y,hy,hu⟩:=hh x hx;refine⟨y,hy,hu.mono fun hp=>?_⟩;have hp:(tx x,tx y)∈S'.cur:=hp;rw[e]at hp;obtain⟨a',b',x',y',ga',gb',hx',hy',e',hbody⟩:=j _ hp;have ex:=hinj a a' x x' ga ga' hx hx' (congrArg Prod.fst e');have ey:=hinj b b' y y' gb gb' hy hy' (congrArg Prod.snd e');subst ex ey;unfold jF at hbody⊢;split at hbody
  ·rename_i h5
   rw[if_pos h5];exact fun p hp=>⟨(hbody p hp).1,H.at ga hx h5 (hbody p hp).1,H.sub b gb y hy _ (List.of_mem_zip hp).2,(hbody p hp).2⟩
  ·rename_i h5
   rw[if_neg h5];obtain⟨x0,x1,y0,y1,e1,e2,h1,h2⟩:=hbody;exact⟨x0,x1,y0,y1,e1,e2,⟨H.sub b gb y hy _ (by rw[e2];simp),H.sub a ga x hx _ (by rw[e1];simp),h1⟩,⟨H.sub a ga x hx _ (by rw[e1];simp),H.sub b gb y hy _ (by rw[e2];simp),h2⟩⟩
 ·cases r
  ·exact absurd hle (A.no _ _ _ _ h0 ha hb h)
  ·rfl
end Go.Ag
/- The judge comes to an end: each step of its recursion puts another pair on the trail. -/
namespace Go.Ag
open Go
variable {G : TA → Prop} {hd : TA → List TA} {tx : TA → Bytes} {loose : Bool}
theorem rC {σ α:Type} {st:σ→α→Option (Bool×σ)} {I:σ→Prop}:∀(l:List α),(∀s x,x∈l→I s→∃b s',st s x=some (b,s')∧I s')→∀s,I s→∃b s',iB st s l=some (b,s')∧I s'
 |[],_,s,h=>⟨true,s,rfl,h⟩
 |x::l,hs,s,h=>by
  obtain⟨b,s2,e,h2⟩:=hs s x (by simp) h;rw[iB,e];cases b
  ·exact⟨false,s2,rfl,h2⟩
  ·exact rC l (fun s x hx=>hs s x (by simp[hx])) s2 h2
theorem EJ {σ α:Type} {st:σ→α→Option (Bool×σ)} {I:σ→Prop}:∀(l:List α),(∀s x,x∈l→I s→∃b s',st s x=some (b,s')∧I s')→∀s,I s→∃b s',qF st s l=some (b,s')∧I s'
 |[],_,s,h=>⟨false,s,rfl,h⟩
 |x::l,hs,s,h=>by
  obtain⟨b,s2,e,h2⟩:=hs s x (by simp) h;rw[qF,e];cases b
  ·exact EJ l (fun s x hx=>hs s x (by simp[hx])) s2 h2
  ·exact⟨true,s2,rfl,h2⟩
def muP (PP:List (Bytes×Bytes)) (S:TrS):Nat:=(PP.filter fun π=> !S.cur.contains π).length
theorem Ii {PP:List (Bytes×Bytes)} {S S':TrS} (h:∀π∈S.cur,π∈S'.cur):muP PP S'≤muP PP S:=by
 unfold muP
 induction PP with
 |nil=>exact Nat.le_refl _
 |cons p PP ih=>
  rw[List.filter_cons,List.filter_cons]
  by_cases h1:p∈S.cur
  ·have h2:=h p h1
   simp only[List.contains_eq_mem,h1,h2,decide_true,Bool.not_true,Bool.false_eq_true,if_false];simpa only[List.contains_eq_mem]using ih
  ·by_cases h2:p∈S'.cur
   ·simp only[List.contains_eq_mem,h1,h2,decide_true,decide_false,Bool.not_true,Bool.not_false,Bool.false_eq_true,if_false,if_true,List.length_cons]
    simp only[List.contains_eq_mem]at ih;omega
   ·simp only[List.contains_eq_mem,h1,h2,decide_false,Bool.not_false,if_true,List.length_cons]
    simp only[List.contains_eq_mem]at ih;omega
theorem Zg {PP:List (Bytes×Bytes)} {S S':TrS} (h:∀π∈S.cur,π∈S'.cur) {p:Bytes×Bytes} (hp:p∈PP) (h1:p∉S.cur) (h2:p∈S'.cur):muP PP S'<muP PP S:=by
 induction PP with
 |nil=>cases hp
 |cons q PP ih=>
  have hle:=Ii (PP:=PP) h;unfold muP at hle ih⊢;rw[List.filter_cons,List.filter_cons];simp only[List.contains_eq_mem]at hle ih⊢;rcases List.mem_cons.1 hp with rfl|hp
  ·simp only[h1,h2,decide_true,decide_false,Bool.not_true,Bool.not_false,Bool.false_eq_true,if_false,if_true,List.length_cons]
   omega
  ·have:=ih hp
   by_cases k1:q∈S.cur
   ·have k2:=h q k1
    simp only[k1,k2,decide_true,Bool.not_true,Bool.false_eq_true,if_false];exact this
   ·by_cases k2:q∈S'.cur
    ·simp only[k1,k2,decide_true,decide_false,Bool.not_true,Bool.not_false,Bool.false_eq_true,if_false,if_true,List.length_cons]
     omega
    ·simp only[k1,k2,decide_false,Bool.not_false,if_true,List.length_cons]
     omega
structure j6 (PP:List (Bytes×Bytes)) (S:TrS):Prop where
 ok:S.ok
 nodup:S.cur.Nodup
 sub:∀π∈S.cur,π∈PP
theorem j6.len {PP:List (Bytes×Bytes)} {S:TrS} (h:j6 PP S):S.len≤PP.length:=by
 rw[←IU h.ok];exact h.nodup.length_le_of_subset h.sub
def Yz (G:TA→Prop) (hd:TA→List TA) (tx:TA→Bytes) (PP:List (Bytes×Bytes)):Prop:=∀a b x y,G a→G b→x∈hd a→y∈hd b→(tx x,tx y)∈PP
theorem Md {PP:List (Bytes×Bytes)} (hP:Yz G hd tx PP) (hl:PP.length<2^40) (H:ng G hd) {rel:TrS→TA→TA→Option (Bool×TrS)} (A:zO G hd tx loose rel) {n:Nat}
  (ih:∀S a b,j6 PP S→muP PP S<n→G a→G b→∃r S',rel S a b=some (r,S')∧j6 PP S') {a b x y:TA} (ha:G a) (hb:G b) (hx:x∈hd a) (hy:y∈hd b) {S:TrS} (hS:j6 PP S) (hmu:muP PP S≤n):
  ∃r S',rP tx loose rel S x y=some (r,S')∧j6 PP S'∧muP PP S'≤n:=by
 unfold rP;split
 ·exact⟨_,_,rfl,hS,hmu⟩
 split
 ·exact⟨_,_,rfl,hS,hmu⟩
 rename_i hk;have hk:x.kind=y.kind:=Decidable.not_not.1 hk;split
 ·exact⟨_,_,rfl,hS,hmu⟩
 rename_i h7;rw[if_neg (by have:=hS.len;omega)];split
 ·exact⟨_,_,rfl,hS,hmu⟩
 rename_i hc;have hc:(tx x,tx y)∉S.cur:=by simpa using hc
 have hpp:=hP a b x y ha hb hx hy;have hpc:=JU hS.ok (tx x,tx y)
 have hpush:j6 PP (S.push (tx x,tx y)):=by
  refine⟨TrS.Cc hS.ok _,?_,fun π hπ=>?_⟩
  ·rw[hpc,List.nodup_append]
   exact⟨hS.nodup,by simp,fun p hp q hq=>by rw[List.mem_singleton]at hq;subst hq;rintro rfl;exact hc hp⟩
  ·rw[hpc]at hπ
   rcases List.mem_append.1 hπ with hπ|hπ
   ·exact hS.sub π hπ
   ·rw[List.mem_singleton]at hπ;subst hπ;exact hpp
 have hsub:∀π∈S.cur,π∈(S.push (tx x,tx y)).cur:=fun π hπ=>by rw[hpc];exact List.mem_append_left _ hπ
 have hlt:muP PP (S.push (tx x,tx y))<n:=Nat.lt_of_lt_of_le (Zg hsub hpp hc (by rw[hpc];simp)) hmu;have h56:x.kind=5∨x.kind=6:=by omega
 have hin:∃r S',(if x.kind=5 then EU rel (S.push (tx x,tx y)) x y else Ay rel (S.push (tx x,tx y)) x y)=some (r,S')∧j6 PP S'∧jB G hd tx loose (S.push (tx x,tx y)) S':=by
  by_cases h5:x.kind=5
  ·rw[if_pos h5]
   have oW:=rC (st:=fun S p=>if p.1∈x.names then rel S (x.l[ni x.names p.1]?.getD default) p.2 else some (false,S)) (I:=fun s=>j6 PP s∧muP PP s<n) (y.names.zip y.l) (fun s p hp hs=>by
    by_cases hm:p.1∈x.names
    ·have g1:=H.at ha hx h5 hm
     have g2:=H.sub b hb y hy _ (List.of_mem_zip hp).2;obtain⟨r,S',e,k⟩:=ih s _ _ hs.1 hs.2 g1 g2;have hgr:=A.grows _ _ _ _ _ hs.1.ok g1 g2 e;exact⟨r,S',by rw[if_pos hm];exact e,k,Nat.lt_of_le_of_lt (Ii hgr.sub) hs.2⟩
    ·exact⟨false,s,by rw[if_neg hm],hs⟩) _ ⟨hpush,hlt⟩
   obtain⟨r,S',e,k⟩:=oW;exact⟨r,S',e,k.1,(JR A H ha hb hx hy h5 hpush.ok e).1⟩
  ·rw[if_neg h5]
   have h6:x.kind=6:=by omega
   obtain⟨x0,x1,ex⟩:=H.fn a ha x hx h6;obtain⟨y0,y1,ey⟩:=H.fn b hb y hy (by rw[←hk];exact h6);have g0:G x0:=H.sub a ha x hx _ (by rw[ex];simp);have g1:G x1:=H.sub a ha x hx _ (by rw[ex];simp);have k0:G y0:=H.sub b hb y hy _ (by rw[ey];simp);have k1:G y1:=H.sub b hb y hy _ (by rw[ey];simp);obtain⟨r,S2,e,t2⟩:=ih _ _ _ hpush hlt k0 g0;have hgr:=A.grows _ _ _ _ _ hpush.ok k0 g0 e;cases r
   ·have he:Ay rel (S.push (tx x,tx y)) x y=some (false,S2):=by unfold Ay;rw[ex,ey];simp only[e]
    exact⟨false,S2,he,t2,hgr⟩
   ·obtain⟨r',S3,e3,t3⟩:=ih _ _ _ t2 (Nat.lt_of_le_of_lt (Ii hgr.sub) hlt) g1 k1
    have he:Ay rel (S.push (tx x,tx y)) x y=some (r',S3):=by unfold Ay;rw[ex,ey];simp only[e];exact e3
    exact⟨r',S3,he,t3,hgr.trans (A.grows _ _ _ _ _ t2.ok g1 k1 e3)⟩
 obtain⟨r,S',e,t',hgr⟩:=hin;rw[e];have hle:=hgr.sub;cases r
 ·obtain⟨ok2,z,e2,_⟩:=hgr
  rw[hpc,List.append_assoc]at e2;obtain⟨hlen,hcut⟩:=OZ hS.ok e2 ok2;refine⟨false,S'.cut S.len,by simp only[if_pos hlen],⟨TrS.Nu ok2 hlen,by rw[hcut];exact hS.nodup,by rw[hcut];exact hS.sub⟩,?_⟩;have:muP PP (S'.cut S.len)=muP PP S:=by unfold muP;rw[hcut]
  omega
 ·exact⟨true,S',rfl,t',Nat.le_trans (Ii hle) (Nat.le_of_lt hlt)⟩
theorem Dk {PP:List (Bytes×Bytes)} (hP:Yz G hd tx PP) (hl:PP.length<2^40) (H:ng G hd):∀n S a b,j6 PP S→muP PP S<n→G a→G b→∃r S',qL hd tx loose n S a b=some (r,S')∧j6 PP S'
 |0,S,a,b,_,h,_,_=>by omega
 |n+1,S,a,b,hS,hmu,ha,hb=>by
  have ih:=Dk hP hl H n;have A:=Dl (tx:=tx) (loose:=loose) H n;rw[qL];have hmu:muP PP S≤n:=by omega
  have:=rC (st:=fun S x=>qF (fun S y=>rP tx loose (qL hd tx loose n) S x y) S (hd b)) (I:=fun s=>j6 PP s∧muP PP s≤n) (hd a) (fun s x hx hs=>
   EJ (st:=fun S y=>rP tx loose (qL hd tx loose n) S x y) (I:=fun s=>j6 PP s∧muP PP s≤n) (hd b) (fun s y hy hs=>Md hP hl H A ih ha hb hx hy hs.1 hs.2) s hs) S ⟨hS,hmu⟩
  obtain⟨r,S',e,k⟩:=this;exact⟨r,S',e,k.1⟩
theorem Bv {PP:List (Bytes×Bytes)} (hP:Yz G hd tx PP) (hl:PP.length<2^40) (H:ng G hd) {a b:TA} (ha:G a) (hb:G b):∃n r S',qL hd tx loose n ⟨0,[],0⟩ a b=some (r,S'):=by
 have h0:j6 PP ⟨0,[],0⟩:=⟨⟨Nat.le_refl _,fun _=>rfl⟩,by simp[TrS.cur],fun π h=>by simp[TrS.cur]at h⟩;obtain⟨r,S',e,_⟩:=Dk hP hl H (loose:=loose) _ ⟨0,[],0⟩ a b h0 (Nat.lt_succ_self _) ha hb;exact⟨_,r,S',e⟩
end Go.Ag
/- Which names lead to themselves; where spreading ends. -/
namespace Go.Ag
open Go
inductive rM (by_:List (Bytes×TA)):TA→Bytes→Prop where
 |here (t:TA) (nm:Bytes) (h:nm∈iX t):rM by_ t nm
 |step (t:TA) (r nm:Bytes) (h:r∈iX t) (h':rM by_ (dI by_ r) nm):rM by_ t nm
theorem rM.trans {by_:List (Bytes×TA)} {t:TA} {r nm:Bytes} (h:rM by_ t r) (h':rM by_ (dI by_ r) nm):rM by_ t nm:=by
 induction h with
 |here t r h=>exact .step t r nm h h'
 |step t q r h _ ih=>exact .step t q nm h (ih h')
variable {by_ : List (Bytes × TA)} {nm : Bytes}
theorem GA :∀(n:Nat) (t:TA) (seen s:List Bytes),iA by_ nm n t seen=some (true,s)→rM by_ t nm
 |0,t,seen,s,h=>by rw[iA]at h;cases h
 |n+1,t,seen,s,h=>by
  rw[iA,Option.map_eq_some_iff]at h;obtain⟨⟨c,s1⟩,hf,e⟩:=h;have hc:c=false:=by have:=congrArg Prod.fst e;simpa using this
  subst hc;obtain⟨_,_,_,hno⟩:=wM (st:=jT (iA by_ nm n) by_ nm) (I:=fun _=>True) (Gr:=fun _ _=>True) (fun _ _=>trivial) (fun _ _ _ _ _=>trivial) (iX t) (fun _ _ _ _ _ _ _=>⟨trivial,trivial⟩) seen false s1 trivial hf;obtain⟨r,hr,s2,_,e2⟩:=hno rfl;unfold jT at e2;split at e2
  ·rename_i hq
   have:r=nm:=by simpa using hq
   subst this;exact .here t r hr
  ·split at e2
   ·cases e2
   ·split at e2
    ·cases e2
    ·rename_i b s3 hq
     have hb:b=true:=by have:=congrArg (fun o=>o.map Prod.fst) e2;simpa using this
     subst hb;exact .step t r nm hr (GA n _ _ _ hq)
def xL (by_:List (Bytes×TA)) (nm:Bytes) (seen s:List Bytes):Prop:=
 (∀r∈seen,r∈s)∧∀r∈s,r∈seen∨∀q∈iX (dI by_ r),q≠nm∧q∈s
theorem xL.refl (s:List Bytes):xL by_ nm s s:=⟨fun _ h=>h,fun _ h=>.inl h⟩
theorem xL.trans {a b c:List Bytes} (h:xL by_ nm a b) (h':xL by_ nm b c):xL by_ nm a c:=
 ⟨fun r hr=>h'.1 r (h.1 r hr),fun r hr=>by
  rcases h'.2 r hr with k|k
  ·rcases h.2 r k with k|k
   ·exact .inl k
   ·exact .inr fun q hq=>⟨(k q hq).1,h'.1 q (k q hq).2⟩
  ·exact .inr k⟩
theorem Lf :∀(n:Nat) (t:TA) (seen s:List Bytes),iA by_ nm n t seen=some (false,s)→xL by_ nm seen s∧∀r∈iX t,r≠nm∧r∈s
 |0,t,seen,s,h=>by rw[iA]at h;cases h
 |n+1,t,seen,s,h=>by
  rw[iA,Option.map_eq_some_iff]at h;obtain⟨⟨c,s1⟩,hf,e⟩:=h;have hc:c=true:=by have:=congrArg Prod.fst e;simpa using this
  have hs:s1=s:=congrArg Prod.snd e;subst hc hs;clear e
  have key:∀(rs:List Bytes) (seen:List Bytes),iB (jT (iA by_ nm n) by_ nm) seen rs=some (true,s1)→xL by_ nm seen s1∧∀r∈rs,r≠nm∧r∈s1:=by
   intro rs
   induction rs with
   |nil=>intro seen h;cases h;exact⟨xL.refl _,fun r hr=>by cases hr⟩
   |cons r rs ih=>
    intro seen h;rw[iB]at h
    cases hq:jT (iA by_ nm n) by_ nm seen r with
    |none=>rw[hq]at h;cases h
    |some q=>
     obtain⟨c,s2⟩:=q;rw[hq]at h;cases c
     ·cases h
     ·obtain⟨k1,k2⟩:=ih s2 h
      unfold jT at hq;split at hq
      ·cases hq
      ·rename_i hne
       have hne:r≠nm:=by simpa using hne
       split at hq
       ·rename_i hc
        cases hq;have hc:r∈seen:=by simpa using hc
        exact⟨k1,fun x hx=>by
         rcases List.mem_cons.1 hx with rfl|hx
         ·exact⟨hne,k1.1 _ hc⟩
         ·exact k2 x hx⟩
       ·split at hq
        ·cases hq
        ·rename_i b s3 hcf
         have hb:b=false:=by have:=congrArg (fun o=>o.map Prod.fst) hq;simpa using this
         have hs3:s3=s2:=by have:=congrArg (fun o=>o.map Prod.snd) hq;simpa using this
         subst hb hs3;obtain⟨j1,j2⟩:=Lf n _ _ _ hcf
         have j:xL by_ nm seen s3:=by
          refine⟨fun x hx=>j1.1 x (by simp[hx]),fun x hx=>?_⟩;rcases j1.2 x hx with h'|h'
          ·rcases List.mem_append.1 h' with h'|h'
           ·exact .inl h'
           ·rw[List.mem_singleton]at h'
            subst h';exact .inr j2
          ·exact .inr h'
         exact⟨j.trans k1,fun x hx=>by
          rcases List.mem_cons.1 hx with rfl|hx
          ·exact⟨hne,k1.1 _ (j1.1 _ (by simp))⟩
          ·exact k2 x hx⟩
  exact key (iX t) seen hf
theorem Le {n:Nat} {t:TA} {b:Bool} {s:List Bytes} (h:iA by_ nm n t []=some (b,s)):b=true↔rM by_ t nm:=by
 refine⟨fun hb=>by subst hb;exact GA n t [] s h,fun hl=>?_⟩;cases b
 ·obtain⟨h1,h2⟩:=Lf n t [] s h
  have hcl:∀r∈s,∀q∈iX (dI by_ r),q≠nm∧q∈s:=fun r hr=>(h1.2 r hr).elim (fun h=>by cases h) id
  have:∀u m,rM by_ u m→m=nm→(∀r∈iX u,r≠nm∧r∈s)→False:=fun u m hl=>by
   induction hl with
   |here u m h=>intro e hu;exact(hu m h).1 e
   |step u r m h _ ih=>intro e hu;exact ih e (hcl r (hu r h).2)
  exact absurd (this t nm hl rfl h2) id
 ·rfl
theorem xY {α:Type} {p q:α→Bool} (h:∀x,p x=true→q x=true):∀l:List α,(l.filter p).Sublist (l.filter q)
 |[]=>by simp
 |x::l=>by
  have ih:=xY h l;rw[List.filter_cons,List.filter_cons];cases hp:p x
  ·cases hq:q x
   ·simpa using ih
   ·simpa using ih.cons x
  ·rw[h x hp]
   simpa using ih.cons_cons x
theorem BK {U:List Bytes} (hU:∀r,∀q∈iX (dI by_ r),q∈U):∀(n:Nat) (t:TA) (seen:List Bytes),(∀r∈iX t,r∈U)→(U.filter fun r=> !seen.contains r).length<n→∃b s,iA by_ nm n t seen=some (b,s)∧∀r∈seen,r∈s
 |0,t,seen,_,h=>by omega
 |n+1,t,seen,ht,h=>by
  have hmono:∀{a b:List Bytes},(∀r∈a,r∈b)→(U.filter fun r=> !b.contains r).length≤(U.filter fun r=> !a.contains r).length:=fun{a b} hab=>by
   refine(xY (fun r hr=>?_) U).length_le;simp only[List.contains_eq_mem,Bool.not_eq_true',decide_eq_false_iff_not]at hr⊢;exact fun hm=>hr (hab r hm)
  rw[iA]
  have hf:=rC (st:=jT (iA by_ nm n) by_ nm) (I:=fun s=>∀r∈seen,r∈s) (iX t) (fun s r hr hs=>by
   unfold jT;split
   ·exact⟨_,_,rfl,hs⟩
   ·split
    ·exact⟨_,_,rfl,hs⟩
    ·rename_i hc
     have hc:r∉s:=by simpa using hc
     have hlt:(U.filter fun q=> !(s ++[r]).contains q).length<n:=by
      have h1:(U.filter fun q=> !(s ++[r]).contains q).length<(U.filter fun q=> !s.contains q).length:=by
       have hsub:(U.filter fun q=> !(s ++[r]).contains q).Sublist (U.filter fun q=> !s.contains q):=xY (fun q hq=>by
        simp only[List.contains_eq_mem,Bool.not_eq_true',decide_eq_false_iff_not]at hq⊢
        exact fun hm=>hq (by simp[hm])) U
       rcases Nat.lt_or_ge (U.filter fun q=> !(s ++[r]).contains q).length (U.filter fun q=> !s.contains q).length with h'|h'
       ·exact h'
       ·have he:=hsub.eq_of_length_le h'
        have:r∈U.filter fun q=> !s.contains q:=List.mem_filter.2 ⟨ht r hr,by simp[hc]⟩
        rw[←he]at this;simp at this
      have h2:=hmono hs;omega
     obtain⟨b,s',e,k⟩:=BK hU n (dI by_ r) (s ++[r]) (hU r) hlt
     exact⟨!b,s',by rw[e],fun q hq=>k q (by simp[hs q hq])⟩) seen fun r hr=>hr
  obtain⟨b,s,e,k⟩:=hf;exact⟨!b,s,by rw[e];rfl,k⟩
theorem MX {q:Bytes} {r:Bytes} (h:q∈iX (dI by_ r)):∃p∈by_,q∈iX p.2:=by
 unfold dI at h
 cases hf:by_.find? (·.1==r)with
 |none=>rw[hf]at h;simp[default,mH,iX]at h
 |some p=>rw[hf]at h;exact⟨p,List.mem_of_find?_eq_some hf,h⟩
theorem Nv (by_:List (Bytes×TA)) (nm:Bytes) (t:TA):∃n b s,iA by_ nm n t []=some (b,s):=by
 obtain⟨b,s,e,_⟩:=BK (by_:=by_) (nm:=nm) (U:=iX t ++by_.flatMap fun p=>iX p.2) (fun r q hq=>by
  obtain⟨p,hp,hq⟩:=MX hq
  exact List.mem_append_right _ (List.mem_flatMap.2 ⟨p,hp,hq⟩)) _ t [] (fun r hr=>List.mem_append_left _ hr) (Nat.lt_succ_self _)
 exact⟨_,b,s,e⟩
def nO (by_:List (Bytes×TA)) (nm:Bytes):Prop:=(by_.find? (·.1==nm)).isSome=false∨rM by_ (dI by_ nm) nm
theorem Ul {e:dH} {nm:Bytes}:(yu e nm).2=(e.by_.find? (·.1==nm)).isSome:=by
 unfold yu Um;cases e.by_.find? (·.1==nm)<;>rfl
theorem vY {e:dH} {nm:Bytes}:(yu e nm).1=dI e.by_ nm:=by
 unfold yu Um dI;cases e.by_.find? (·.1==nm)<;>rfl
theorem mq {e:dH} (h:lg by_ e) (hn:(by_.map (·.1)).Nodup) (nm:Bytes):vW e nm=true↔nO by_ nm:=by
 unfold vW nO;rw[Ul,h.hby]
 cases hf:by_.find? (·.1==nm)with
 |none=>simp
 |some p=>
  have hp:=List.mem_of_find?_eq_some hf;have hpn:p.1=nm:=by simpa using List.find?_some (p:=fun q:Bytes×TA=>q.1==nm) hf
  obtain⟨n,b,s,hc,hl⟩:=h.empty p hp;rw[hpn]at hc hl;have hlk:dI by_ nm=p.2:=by unfold dI;rw[hf];rfl
  rw[hlk];simp only[Option.isSome_some,if_true,Bool.true_eq_false,false_or,hl];exact Le hc
end Go.Ag
/- Spreading ends; what it comes to. -/
namespace Go.Ag
open Go
theorem uY (e:dH):∀n,(∀t ys,bq e n t=some ys→bq e (n+1) t=some ys)∧(∀l ys,aY e n l=some ys→aY e (n+1) l=some ys)
 |0=>⟨fun t ys h=>(by rw[bq]at h;cases h),fun l ys h=>(by rw[aY]at h;cases h)⟩
 |n+1=>by
  obtain⟨h1,h2⟩:=uY e n;refine⟨fun t ys h=>?_,fun l ys h=>?_⟩
  ·obtain⟨k,nm,ns,l⟩:=t
   rw[bq]at h⊢;split at h
   ·rename_i h8
    rw[if_pos h8];split at h
    ·rename_i he;rw[if_pos he];exact h
    ·rename_i he;rw[if_neg he];exact h1 _ _ h
   ·rename_i h8
    rw[if_neg h8];split at h
    ·rename_i h7;rw[if_pos h7];exact h2 _ _ h
    ·rename_i h7;rw[if_neg h7];exact h
  ·cases l with
   |nil=>rw[aY]at h⊢;exact h
   |cons t l=>
    rw[aY]at h⊢
    cases hx:bq e n t with
    |none=>rw[hx]at h;cases h
    |some xs=>
     cases hr:aY e n l with
     |none=>rw[hx,hr]at h;cases h
     |some zs=>
      rw[hx,hr]at h;rw[h1 _ _ hx,h2 _ _ hr];exact h
theorem uZ {e:dH} {n m:Nat} (hnm:n≤m) {t:TA} {ys:List TA} (h:bq e n t=some ys):bq e m t=some ys:=by
 induction hnm with
 |refl=>exact h
 |step _ ih=>exact(uY e _).1 _ _ ih
theorem Hl {e:dH} {n m:Nat} (hnm:n≤m) {t:List TA} {ys:List TA} (h:aY e n t=some ys):aY e m t=some ys:=by
 induction hnm with
 |refl=>exact h
 |step _ ih=>exact(uY e _).2 _ _ ih
theorem Mj {e:dH} {n m:Nat} {t:TA} {ys zs:List TA} (h:bq e n t=some ys) (h':bq e m t=some zs):ys=zs:=by
 have h1:=uZ (Nat.le_max_left n m) h;have h2:=uZ (Nat.le_max_right n m) h';rw[h1]at h2;exact Option.some.inj h2
theorem Ba {e:dH}:∀(l:List TA),(∀x∈l,∃n ys,bq e n x=some ys)→∃n ys,aY e n l=some ys
 |[],_=>⟨1,[],by rw[aY]⟩
 |t::l,h=>by
  obtain⟨n,ys,h1⟩:=h t (by simp);obtain⟨m,zs,h2⟩:=Ba l fun x hx=>h x (by simp[hx])
  refine⟨max n m+1,ys ++zs,?_⟩;rw[aY,uZ (Nat.le_max_left n m) h1,Hl (Nat.le_max_right n m) h2]
variable {by_ : List (Bytes × TA)}
theorem KX {nm:Bytes} (h:(by_.find? (·.1==nm)).isSome=true):nm∈by_.map (·.1):=by
 rw[List.find?_isSome]at h;obtain⟨p,hp,e⟩:=h;exact List.mem_map.2 ⟨p,hp,by simpa using e⟩
theorem RB {l:List TA} {t:TA} {r:Bytes} (ht:t∈l) (hr:r∈iX t):r∈tu l:=by
 induction l with
 |nil=>cases ht
 |cons x l ih=>
  rw[tu,List.mem_append];rcases List.mem_cons.1 ht with rfl|ht
  ·exact .inl hr
  ·exact .inr (ih ht)
theorem Ho {e:dH} (hE:lg by_ e) (hnd:(by_.map (·.1)).Nodup):∀(k:Nat) (P:List Bytes),P.Nodup→(∀p∈P,p∈by_.map (·.1))→(by_.map (·.1)).length-P.length=k→∀(w:Nat) (t:TA),wtT t≤w→(∀p∈P,∀r∈iX t,rM by_ (dI by_ p) r)→∃n ys,bq e n t=some ys:=by
 intro k
 induction k using Nat.strongRecOn with
 |ind k ih=>
  intro P hP hsub hk w
  induction w with
  |zero=>intro t h;have:=BP t;omega
  |succ w ihw=>
   intro t hw hlead;obtain⟨tk,nm,ns,l⟩:=t;rw[iX]at hlead
   by_cases h8:tk=8
   ·rw[if_pos h8]at hlead
    by_cases hem:vW e nm=true
    ·exact⟨1,[bJ],by rw[bq,if_pos h8,if_pos hem]⟩
    ·have hne:¬nO by_ nm:=fun h=>hem ((mq hE hnd nm).2 h)
     have hdef:(by_.find? (·.1==nm)).isSome=true:=by
      cases hd:(by_.find? (·.1==nm)).isSome
      ·exact absurd (.inl hd) hne
      ·rfl
     have hkey:=KX hdef;have hnP:nm∉P:=fun hm=>hne (.inr (hlead nm hm nm (by simp)))
     have hP':(nm::P).Nodup:=List.nodup_cons.2 ⟨hnP,hP⟩
     have hlen:(nm::P).length≤(by_.map (·.1)).length:=hP'.length_le_of_subset fun p hp=>by
      rcases List.mem_cons.1 hp with rfl|hp
      ·exact hkey
      ·exact hsub p hp
     rw[List.length_cons]at hlen
     obtain⟨n,ys,h⟩:=ih (k-1) (by omega) (nm::P) hP' (fun p hp=>by
      rcases List.mem_cons.1 hp with rfl|hp
      ·exact hkey
      ·exact hsub p hp) (by rw[List.length_cons];omega) _ (dI by_ nm) (Nat.le_refl _) (fun p hp r hr=>by
      rcases List.mem_cons.1 hp with rfl|hp
      ·exact .here _ _ hr
      ·exact(hlead p hp nm (by simp)).trans (.here _ _ hr))
     refine⟨n+1,ys,?_⟩;rw[bq,if_pos h8,if_neg hem,vY,hE.hby];exact h
   ·rw[if_neg h8]at hlead
    by_cases h7:tk=7
    ·rw[if_pos h7]at hlead
     rw[wtT]at hw;obtain⟨n,ys,h⟩:=Ba (e:=e) l fun x hx=>ihw x (by have:=iR hx;omega) fun p hp r hr=>hlead p hp r (RB hx hr)
     exact⟨n+1,ys,by rw[bq,if_neg h8,if_pos h7];exact h⟩
    ·exact⟨1,[.mk tk nm ns l],by rw[bq,if_neg h8,if_neg h7]⟩
inductive Spr (by_:List (Bytes×TA)):TA→TA→Prop where
 |self (t:TA) (h7:t.kind≠7) (h8:t.kind≠8):Spr by_ t t
 |part (nm:Bytes) (ns:List Bytes) (l:List TA) (x y:TA) (hx:x∈l) (h:Spr by_ x y):Spr by_ (.mk 7 nm ns l) y
 |emp (nm:Bytes) (ns:List Bytes) (l:List TA) (h:nO by_ nm):Spr by_ (.mk 8 nm ns l) bJ
 |ref (nm:Bytes) (ns:List Bytes) (l:List TA) (y:TA) (he:¬nO by_ nm) (h:Spr by_ (dI by_ nm) y):Spr by_ (.mk 8 nm ns l) y
theorem CW {e:dH} (hE:lg by_ e) (hnd:(by_.map (·.1)).Nodup):∀n,(∀t ys,bq e n t=some ys→∀y,y∈ys↔Spr by_ t y)∧(∀l ys,aY e n l=some ys→∀y,y∈ys↔∃x∈l,Spr by_ x y)
 |0=>⟨fun t ys h=>(by rw[bq]at h;cases h),fun l ys h=>(by rw[aY]at h;cases h)⟩
 |n+1=>by
  obtain⟨h1,h2⟩:=CW hE hnd n;refine⟨fun t ys h y=>?_,fun l ys h y=>?_⟩
  ·obtain⟨k,nm,ns,l⟩:=t
   rw[bq]at h;split at h
   ·rename_i h8
    subst h8;split at h
    ·rename_i he
     cases h;have he:=(mq hE hnd nm).1 he;rw[List.mem_singleton];refine⟨fun h=>by subst h;exact .emp nm ns l he,fun h=>?_⟩
     cases h with
     |self _ _ h8=>exact absurd rfl h8
     |emp=>rfl
     |ref _ _ _ _ hn=>exact absurd he hn
    ·rename_i he
     have he:¬nO by_ nm:=fun h=>he ((mq hE hnd nm).2 h)
     rw[vY,hE.hby]at h;rw[h1 _ _ h y];refine⟨fun h=>.ref nm ns l y he h,fun h=>?_⟩
     cases h with
     |self _ _ h8=>exact absurd rfl h8
     |emp _ _ _ hn=>exact absurd hn he
     |ref _ _ _ _ _ h=>exact h
   ·rename_i h8
    split at h
    ·rename_i h7
     subst h7;rw[h2 _ _ h y];refine⟨fun⟨x,hx,hs⟩=>.part nm ns l x y hx hs,fun h=>?_⟩
     cases h with
     |self _ h7 _=>exact absurd rfl h7
     |part _ _ _ x _ hx hs=>exact⟨x,hx,hs⟩
    ·rename_i h7
     cases h;rw[List.mem_singleton];refine⟨fun h=>by subst h;exact .self _ h7 h8,fun h=>?_⟩
     cases h with
     |self=>rfl
     |part=>exact absurd rfl h7
     |emp=>exact absurd rfl h8
     |ref=>exact absurd rfl h8
  ·cases l with
   |nil=>
    rw[aY]at h;cases h;exact⟨fun h=>(by cases h),fun⟨x,hx,_⟩=>(by cases hx)⟩
   |cons t l=>
    rw[aY]at h
    cases hx:bq e n t with
    |none=>rw[hx]at h;cases h
    |some xs=>
     cases hr:aY e n l with
     |none=>rw[hx,hr]at h;cases h
     |some zs=>
      rw[hx,hr]at h;cases h;rw[List.mem_append,h1 _ _ hx y,h2 _ _ hr y];refine⟨fun h=>?_,fun⟨x,hx,hs⟩=>?_⟩
      ·rcases h with h|⟨x,hx,h⟩
       ·exact⟨t,by simp,h⟩
       ·exact⟨x,by simp[hx],h⟩
      ·rcases List.mem_cons.1 hx with rfl|hx
       ·exact .inl hs
       ·exact .inr ⟨x,hx,hs⟩
noncomputable def sj (e:dH) (t:TA):List TA:=open Classical in if h:∃n ys,bq e n t=some ys then h.choose_spec.choose else[]
theorem Og {e:dH} {n:Nat} {t:TA} {ys:List TA} (h:bq e n t=some ys):sj e t=ys:=by
 have hx:∃n ys,bq e n t=some ys:=⟨n,ys,h⟩;unfold sj;rw[dif_pos hx];exact Mj hx.choose_spec.choose_spec h
theorem r9 {e:dH} (hE:lg by_ e) (hnd:(by_.map (·.1)).Nodup) (t:TA):∃n,bq e n t=some (sj e t):=by
 obtain⟨n,ys,h⟩:=Ho hE hnd _ [] (by simp) (fun p hp=>by cases hp) rfl _ t (Nat.le_refl _) (fun p hp=>by cases hp);exact⟨n,by rw[Og h];exact h⟩
theorem ql {e:dH} (hE:lg by_ e) (hnd:(by_.map (·.1)).Nodup) (t y:TA):y∈sj e t↔Spr by_ t y:=by
 obtain⟨n,h⟩:=r9 hE hnd t;exact(CW hE hnd n).1 _ _ h y
theorem vM (hb:∀p∈by_,NT p.2) {nm:Bytes} (h:¬nO by_ nm):NT (dI by_ nm)∧∃p∈by_,dI by_ nm=p.2:=by
 unfold nO at h
 cases hf:by_.find? (·.1==nm)with
 |none=>exact absurd (.inl (by rw[hf];rfl)) h
 |some p=>
  have hp:=List.mem_of_find?_eq_some hf;have:dI by_ nm=p.2:=by unfold dI;rw[hf];rfl
  exact⟨by rw[this];exact hb p hp,p,hp,this⟩
theorem Spr.nt (hb:∀p∈by_,NT p.2) {t y:TA} (h:Spr by_ t y):NT t→NT y∧y.kind≠7∧y.kind≠8:=by
 induction h with
 |self t h7 h8=>exact fun ht=>⟨ht,h7,h8⟩
 |part nm ns l x y hx h ih=>exact fun ht=>ih (ht.parts x hx)
 |emp nm ns l h=>exact fun _=>⟨.dyn,by decide,by decide⟩
 |ref nm ns l y he h ih=>exact fun _=>ih (vM hb he).1
theorem Spr.some (hb:∀p∈by_,NT p.2) {e:dH} (hE:lg by_ e) (hnd:(by_.map (·.1)).Nodup):∀(n:Nat) (t:TA) (ys:List TA),NT t→bq e n t=Option.some ys→ys≠[]:=by
 intro n
 induction n using Nat.strongRecOn with
 |ind n ih=>
 intro t ys ht h
 cases n with
 |zero=>rw[bq]at h;cases h
 |succ n=>
  obtain⟨k,nm,ns,l⟩:=t;rw[bq]at h;split at h
  ·split at h
   ·cases h;simp
   ·rename_i he
    have he:¬nO by_ nm:=fun h=>he ((mq hE hnd nm).2 h)
    rw[vY,hE.hby]at h;exact ih n (Nat.lt_succ_self n) _ ys (vM hb he).1 h
  ·split at h
   ·rename_i h7
    subst h7;have hl:l≠[]∧∀x∈l,NT x:=by cases ht with|uni l h2 h=>exact⟨by rintro rfl;simp at h2,h⟩
    obtain⟨m,rfl⟩:∃m,n=m+1:=by cases n with
     |zero=>rw[aY]at h;cases h
     |succ m=>exact⟨m,rfl⟩
    cases l with
    |nil=>exact absurd rfl hl.1
    |cons t l=>
     rw[aY]at h
     cases hx:bq e m t with
     |none=>rw[hx]at h;cases h
     |some xs=>
      cases hr:aY e m l with
      |none=>rw[hx,hr]at h;cases h
      |some zs=>
       rw[hx,hr]at h;cases h;have:=ih m (by omega) t xs (hl.2 t (by simp)) hx;intro e;exact this (List.append_eq_nil_iff.1 e).1
   ·cases h;simp
end Go.Ag
/- Package sub: under. -/
namespace Go.Ag
open Go
variable {T : Tab} {L : Lnk}
theorem RG {S:TrS} (hS:S.ok) (hl:S.len≤2^40) (p:Bytes×Bytes) {tk0:Tok} {H:Heap} {K:au→Heap→Prop} (hid:H[4]?=some (tobj S)) (h:K (tval (S.push p)) (H.set 4 (tobj (S.push p)))):lG 2 32 326 (tval S) (.lst [vH p] tk0) H K:=by
 obtain⟨v,xs,len⟩:=S;obtain⟨h1,h2⟩:=hS;dsimp only at h1 h2 hl
 cases v with
 |zero=>
  unfold lG;show dF 2 []∧_;refine⟨fun x hx=>(by cases hx),fun x hx=>?_,by simp,by simp,?_⟩
  ·simp only[List.mem_singleton]at hx;subst hx;exact⟨rfl,rfl⟩
  ·rw[if_neg (by simp)]
   exact .inr (.inr (.inl ⟨4,hid,h⟩))
 |succ v=>
  unfold lG;show dF 2 [vH p]∧_;refine⟨fun x hx=>?_,⟨rfl,rfl,by simp⟩,by simp;omega,by simp;omega,?_⟩
  ·simp only[List.mem_singleton]at hx;subst hx;exact⟨rfl,rfl⟩
  ·rw[hid]
   refine⟨⟨rfl,by rw[xU];exact h1,rfl,Bg xs⟩,v+2,by omega,?_⟩;have e1:tval (TrS.push ⟨v+1,xs,len⟩ p)=.vec 4 (v+2) 2 0 (len+1):=rfl
   have e2:tobj (TrS.push ⟨v+1,xs,len⟩ p)=.arr (v+2) ((lC xs).take len ++[vH p]) 326:=by
    show aU.arr (v+2) (lC (xs.take len ++[p])) 326=_;simp[lC]
   rw[e1,e2]at h;exact h
theorem Wt {rel:TrS→TA→TA→Option (Bool×TrS)} (hr:∀S a b r S',S.ok→rel S a b=some (r,S')→S'.ok) {S:TrS} {x y:TA} {r:Bool} {S':TrS} (hS:S.ok) (h:EU rel S x y=some (r,S')):S'.ok:=
 sV (P:=TrS.ok) _ (fun s p b s' _ hs he=>by
  split at he
  ·exact hr _ _ _ _ _ hs he
  ·cases he;exact hs) _ _ _ hS h
theorem VO (tx:TA→Bytes) (loose:Bool) (rel:TrS→TA→TA→Option (Bool×TrS)) (S:TrS) (xk:Int) (xm:Bytes) (xs:List Bytes) (xl:List TA) (yk:Int) (ym:Bytes) (ys:List Bytes) (yl:List TA) {sx sy:Bytes} (hsx:tx (.mk xk xm xs xl)=sx) (hsy:tx (.mk yk ym ys yl)=sy):
  rP tx loose rel S (.mk xk xm xs xl) (.mk yk ym ys yl)=if xk=4∨yk=4 then some (loose||xk==yk,S)
   else if xk≠yk then some (false,S)
   else if xk≠5∧xk≠6 then some (true,S)
   else if 2^40≤S.len then none
   else if S.cur.contains (sx,sy)=true then some (true,S)
   else match(if xk=5 then EU rel (S.push (sx,sy)) (.mk xk xm xs xl) (.mk yk ym ys yl)else Ay rel (S.push (sx,sy)) (.mk xk xm xs xl) (.mk yk ym ys yl))with
    |none=>none
    |some (true,S')=>some (true,S')
    |some (false,S')=>if S.len≤S'.len then some (false,S'.cut S.len)else none:=by
 subst hsx hsy;rfl
theorem Ji (F:oQ T) {e:dH} {loose:Bool} (W:JW T e) {rel:TrS→TA→TA→Option (Bool×TrS)} (hR:LQ T e loose W.G rel) (WT:∀S a b r S',S.ok→rel S a b=some (r,S')→S'.ok) (a b x y:TA) (ha:W.G a) (hb:W.G b) (hx:x∈W.hd a) (hy:y∈W.hd b) (S:TrS) (r:Bool) (S':TrS) (hS:S.ok)
  (h:rP W.tx loose rel S x y=some (r,S')):dB T.L 239 [.ptr 3 0,x.av,y.av] (kX e loose S) (.bool r) (kX e loose S'):=by
 refine dB.of 0 rfl (.bool _) (l8 e loose S') (aC.mono (Q:=fun r' H'=>∃J,r'=.ret (.bool r)∧H'=kX e loose S' ++J) ?_ fun r H' ⟨J,e1,e2⟩=>⟨_,_,J,e1,Weak.refl _,e2,rfl,fun i x y h1 h2=>by rw[h1]at h2;cases h2;exact bM.refl x⟩);have htx:=W.text a ha x hx;have hty:=W.text b hb y hy;have hxs:=W.sub a ha x hx;have hys:=W.sub b hb y hy;have hxf:=W.fn a ha x hx;have hyf:=W.fn b hb y hy;have hxr:=W.rcd a ha x hx;have hyr:=W.rcd b hb y hy;have YG:=fun(h1:x.kind=5) (h2:y.kind=5) S r S' hS h=>H8 F hR x y hxs hys (hxr h1) ⟨(hyr h2).1,(hyr h2).2.2⟩ S r S' hS h
 obtain⟨sx,hsx⟩:∃sx,W.tx x=sx:=⟨_,rfl⟩;obtain⟨sy,hsy⟩:∃sy,W.tx y=sy:=⟨_,rfl⟩;rw[hsx]at htx;rw[hsy]at hty;obtain⟨xk,xm,xs,xl⟩:=x;obtain⟨yk,ym,ys,yl⟩:=y;rw[VO _ _ _ _ _ _ _ _ _ _ _ _ hsx hsy]at h;simp only[TA.kind,TA.l,TA.names]at hxf hyf hxr hyr hxs hys YG;refine aG F.Xx (by simp[UN]) ?_;conv=>whnf
 by_cases h4:xk=4∨yk=4
 ·rw[if_pos h4]at h
  cases h;cases h5:(xk==4)
  ·have h6:(yk==4)=true:=by
    rcases h4 with h4|h4
    ·rw[h4]at h5;cases h5
    ·simpa using h4
   conv=>whnf
   rw[h6];conv=>whnf
   cases loose
   ·conv=>whnf
    exact⟨_,rfl,rfl⟩
   ·conv=>whnf
    exact⟨_,rfl,rfl⟩
  ·conv=>whnf
   cases loose
   ·conv=>whnf
    exact⟨_,rfl,rfl⟩
   ·conv=>whnf
    exact⟨_,rfl,rfl⟩
 ·rw[if_neg h4]at h
  have h5:(xk==4)=false:=by simpa using fun e=>h4 (.inl e)
  have h6:(yk==4)=false:=by simpa using fun e=>h4 (.inr e)
  rw[h5];conv=>whnf
  rw[h6];conv=>whnf
  by_cases hk:xk=yk
  ·rw[if_neg (by simpa using hk)]at h
   have hk2:(xk !=yk)=false:=by simpa using hk
   rw[hk2];conv=>whnf
   by_cases h7:xk≠5∧xk≠6
   ·rw[if_pos h7]at h
    cases h;have h8:(xk !=5)=true:=by simpa using h7.1
    have h9:(xk !=6)=true:=by simpa using h7.2
    rw[h8];conv=>whnf
    rw[h9];conv=>whnf
    exact⟨_,rfl,rfl⟩
   ·rw[if_neg h7]at h
    subst hk
    have hcon:=fun hl=>yT F.QV F.KI (.map (dh e.by_ 0) e.by_.length) (.map (gJ e.empty 0) e.empty.length) (.cells [.map 0,.map 1] 234) (.cells [.ptr 2 0,.bool loose,tval S] 263)
     ⟨eB 5 _ _,fD 5 _ _,dO ⟨.map _ (by decide:0<5),.map _ (by decide:1<5),trivial⟩,dO ⟨.ptr _ _ (by decide:2<5),.bool _,qy S,trivial⟩,trivial⟩ S hS hl (sx,sy)
    have hlv:∀x∈[tval S,vH (sx,sy)],Low 5 x:=gB.at ⟨qy S,Dz 5 _,trivial⟩;have h56:xk=5∨xk=6:=by omega
    by_cases Tv:2^40≤S.len
    ·rw[if_pos Tv]at h;cases h
    rw[if_neg Tv]at h;have Tv:S.len≤2^40:=by omega
    have hcon:=hcon Tv;have happ:=fun(H:Heap) (tk0:Tok) (K:au→Heap→Prop)=>RG hS Tv (sx,sy) (tk0:=tk0) (H:=H) (K:=K)
    have QM:=TrS.Cc hS (sx,sy);have hlJ:∀S,∀o∈kX e loose S,bI 5 o:=l8 e loose;obtain⟨m,hm⟩:∃m,S.len=m:=⟨_,rfl⟩;obtain⟨bc,hbc⟩:∃bc,S.cur.contains (sx,sy)=bc:=⟨_,rfl⟩;rw[hbc]at h hcon;rw[hm]at h;rcases h56 with rfl|rfl
    ·obtain⟨sv,sxs,C8⟩:=S
     have h00:sv=0→C8=0:=hS.2;have hmm:m=C8:=hm.symm;cases sv
     case' zero=>
      obtain rfl:=h00 rfl
     all_goals
      conv=>whnf
      refine htx.soft ?_;conv=>whnf
      refine hty.soft ?_;conv=>whnf
      refine hcon.to rfl hlv (hlJ _) (.bool _) (hlJ _) [aZ (.mk 5 xm xs xl),aZ (.mk 5 ym ys yl),.cells [.str sx,.str sy] 326] rfl ?_;conv=>whnf
      cases bc
      case' true=>
       rw[if_pos rfl]at h;cases h;conv=>whnf
       exact⟨_,rfl,rfl⟩
      rw[if_neg (by simp),if_pos rfl]at h;conv=>whnf
      refine happ _ _ _ rfl ?_;conv=>whnf
      cases hq:EU rel (TrS.push _ (sx,sy)) (.mk 5 xm xs xl) (.mk 5 ym ys yl)
      case' none=>rw[hq]at h;cases h
      rename_i q;obtain⟨c,S2⟩:=q;rw[hq]at h;have hok2:=Wt WT QM hq;refine(YG rfl rfl _ _ _ QM hq).to rfl (gB.at ⟨.ptr _ _ (show 3<5 by decide),aT 5 (.mk 5 xm xs xl),aT 5 (.mk 5 ym ys yl),trivial⟩) (hlJ _) (.bool _) (hlJ _) [aZ (.mk 5 xm xs xl),aZ (.mk 5 ym ys yl),.cells [.str sx,.str sy] 326] rfl ?_;cases c
      ·have h:(if m≤S2.len then some (false,S2.cut m)else none)=some (r,S'):=h
       by_cases hle:m≤S2.len
       ·rw[if_pos hle]at h
        cases h;obtain⟨v2,xs2,len2⟩:=S2;have hle:m≤len2:=hle;have h02:v2=0→len2=0:=hok2.2;cases v2
        ·obtain rfl:=h02 rfl
         obtain rfl:m=0:=by omega
         try subst hmm
         conv=>whnf
         refine⟨by simp,by simp,fun x hx=>(by cases hx),?_⟩;conv=>whnf
         exact⟨_,rfl,rfl⟩
        ·subst hmm
         conv=>whnf
         refine⟨⟨Nat.zero_le _,by first|(simp;done)|(simp;omega),.inl rfl,rfl⟩,?_⟩;conv=>whnf
         exact⟨_,rfl,rfl⟩
       ·rw[if_neg hle]at h;cases h
      ·cases h
       conv=>whnf
       exact⟨_,rfl,rfl⟩
    ·obtain⟨x0,x1,rfl⟩:=hxf rfl
     obtain⟨y0,y1,rfl⟩:=hyf rfl;have hGx0:=hxs x0 (by simp);have hGx1:=hxs x1 (by simp);have hGy0:=hys y0 (by simp);have hGy1:=hys y1 (by simp)
     have hfun:∀S1,Ay rel S1 (.mk 6 xm xs [x0,x1]) (.mk 6 ym ys [y0,y1])=match rel S1 y0 x0 with
      |none=>none
      |some (false,S')=>some (false,S')
      |some (true,S')=>rel S' x1 y1:=fun S1=>rfl
     rw[if_neg (show¬(6:Int)=5 by decide),hfun]at h;have hcallR:=fun S a b r S' hS ha hb h=>hR S a b r S' hS ha hb h
     have hgx0:(TA.avs [x0,x1])[Int.toNat 0]?=some x0.av:=rfl;have hgx1:(TA.avs [x0,x1])[Int.toNat 1]?=some x1.av:=rfl;have hgy0:(TA.avs [y0,y1])[Int.toNat 0]?=some y0.av:=rfl;have hgy1:(TA.avs [y0,y1])[Int.toNat 1]?=some y1.av:=rfl;have hl0:=Cg y0 x0;have hl1:=Cg x1 y1;have hcx:aZ (.mk 6 xm xs [x0,x1])=.cells [.int .i64 6,.str xm,.lst (aO xs) .none,.lst [x0.av,x1.av] .none] 175:=rfl;have hcy:aZ (.mk 6 ym ys [y0,y1])=.cells [.int .i64 6,.str ym,.lst (aO ys) .none,.lst [y0.av,y1.av] .none] 175:=rfl;obtain⟨sv,sxs,C8⟩:=S;have h00:sv=0→C8=0:=hS.2;have hmm:m=C8:=hm.symm;cases sv
     case' zero=>
      obtain rfl:=h00 rfl
     all_goals
      conv=>whnf
      refine htx.soft ?_;conv=>whnf
      refine hty.soft ?_;conv=>whnf
      refine hcon.to rfl hlv (hlJ _) (.bool _) (hlJ _) [aZ (.mk 6 xm xs [x0,x1]),aZ (.mk 6 ym ys [y0,y1]),.cells [.str sx,.str sy] 326] rfl ?_;conv=>whnf
      cases bc
      case' true=>
       rw[if_pos rfl]at h;cases h;conv=>whnf
       exact⟨_,rfl,rfl⟩
      rw[if_neg (by simp)]at h;conv=>whnf
      refine happ _ _ _ rfl ?_;conv=>whnf
      cases hq:rel (TrS.push _ (sx,sy)) y0 x0
      case' none=>rw[hq]at h;cases h
      rename_i q;obtain⟨c,S2⟩:=q;rw[hq]at h;obtain⟨hok2,hc⟩:=hR _ _ _ _ _ QM hGy0 hGx0 hq;obtain⟨y0k,y0m,y0s,y0l⟩:=y0;obtain⟨x0k,x0m,x0s,x0l⟩:=x0;refine⟨by decide,rfl,?_⟩;conv=>whnf
      refine⟨by decide,rfl,?_⟩;conv=>whnf
      refine hc.to rfl hl0 (hlJ _) (.bool _) (hlJ _) [aZ (.mk 6 xm xs [.mk x0k x0m x0s x0l,x1]),aZ (.mk 6 ym ys [.mk y0k y0m y0s y0l,y1]),.cells [.str sx,.str sy] 326] rfl ?_;cases c
      case' false=>
       have h:(if m≤S2.len then some (false,S2.cut m)else none)=some (r,S'):=h
       by_cases hle:m≤S2.len
       ·rw[if_pos hle]at h
        cases h;obtain⟨v2,xs2,len2⟩:=S2;have hle:m≤len2:=hle;have h02:v2=0→len2=0:=hok2.2;cases v2
        ·obtain rfl:=h02 rfl
         obtain rfl:m=0:=by omega
         try subst hmm
         conv=>whnf
         refine⟨by simp,by simp,fun x hx=>(by cases hx),?_⟩;conv=>whnf
         exact⟨_,rfl,rfl⟩
        ·subst hmm
         conv=>whnf
         refine⟨⟨Nat.zero_le _,by first|(simp;done)|(simp;omega),.inl rfl,rfl⟩,?_⟩;conv=>whnf
         exact⟨_,rfl,rfl⟩
       ·rw[if_neg hle]at h;cases h
      cases hq2:rel S2 x1 y1
      case' none=>
       dsimp only at h;rw[hq2]at h;cases h
      rename_i q2;obtain⟨c2,S3⟩:=q2;dsimp only at h;rw[hq2]at h;obtain⟨hok3,hc3⟩:=hR _ _ _ _ _ hok2 hGx1 hGy1 hq2;obtain⟨y1k,y1m,y1s,y1l⟩:=y1;obtain⟨x1k,x1m,x1s,x1l⟩:=x1;conv=>whnf
      refine⟨by decide,rfl,?_⟩;conv=>whnf
      refine⟨by decide,rfl,?_⟩;conv=>whnf
      refine hc3.to rfl hl1 (hlJ _) (.bool _) (hlJ _) [aZ (.mk 6 xm xs [.mk x0k x0m x0s x0l,.mk x1k x1m x1s x1l]),aZ (.mk 6 ym ys [.mk y0k y0m y0s y0l,.mk y1k y1m y1s y1l]),.cells [.str sx,.str sy] 326] rfl ?_;cases c2
      case' false=>
       have h:(if m≤S3.len then some (false,S3.cut m)else none)=some (r,S'):=h
       by_cases hle:m≤S3.len
       ·rw[if_pos hle]at h
        cases h;obtain⟨v2,xs2,len2⟩:=S3;have hle:m≤len2:=hle;have h02:v2=0→len2=0:=hok3.2;cases v2
        ·obtain rfl:=h02 rfl
         obtain rfl:m=0:=by omega
         try subst hmm
         conv=>whnf
         refine⟨by simp,by simp,fun x hx=>(by cases hx),?_⟩;conv=>whnf
         exact⟨_,rfl,rfl⟩
        ·subst hmm
         conv=>whnf
         refine⟨⟨Nat.zero_le _,by first|(simp;done)|(simp;omega),.inl rfl,rfl⟩,?_⟩;conv=>whnf
         exact⟨_,rfl,rfl⟩
       ·rw[if_neg hle]at h;cases h
      cases h;conv=>whnf
      exact⟨_,rfl,rfl⟩
  ·rw[if_pos hk]at h
   cases h;have hk2:(xk !=yk)=true:=by simpa using hk
   rw[hk2];conv=>whnf
   exact⟨_,rfl,rfl⟩
end Go.Ag
/- Package sub: related; Sub, Fits, Equal. -/
namespace Go.Ag
open Go
variable {T : Tab} {L : Lnk}
def rB (e:dH) (loose:Bool) (a b x:TA) (S:TrS):Nat→aU
 |0=>.map (dh e.by_ 0) e.by_.length
 |1=>.map (gJ e.empty 0) e.empty.length
 |2=>.cells [.map 0,.map 1] 234
 |3=>.cells [.ptr 2 0,.bool loose,tval S] 263
 |4=>tobj S
 |5=>.cells [.ptr 3 0] 260
 |6=>aZ a
 |7=>aZ b
 |_=>aZ x
def Dh (e:dH) (loose:Bool) (a b x:TA) (S:TrS):Heap:=[rB e loose a b x S 0,rB e loose a b x S 1,rB e loose a b x S 2,rB e loose a b x S 3,rB e loose a b x S 4,rB e loose a b x S 5,rB e loose a b x S 6,rB e loose a b x S 7,rB e loose a b x S 8]
theorem wH (n:Nat) (hn:9≤n) (e:dH) (loose:Bool) (a b x:TA) (S:TrS):fG n (Dh e loose a b x S):=
  ⟨eB n _ _,fD n _ _,dO ⟨.map _ (by omega),.map _ (by omega),trivial⟩,dO ⟨.ptr _ _ (by omega),.bool _,(qy S).mono (by omega),trivial⟩,sO n S,dO ⟨.ptr _ _ (by omega),trivial⟩,
   (show bI n (aZ a)from aI (Nat.zero_le _) (cu _)),(show bI n (aZ b)from aI (Nat.zero_le _) (cu _)),(show bI n (aZ x)from aI (Nat.zero_le _) (cu _)),trivial⟩
open Classical in
noncomputable def Yv (W:List TA) (f:TrS→TA→Option (Bool×TrS)) (S:TrS) (y:TA):Option (Bool×TrS):=if S.ok∧y∈W then f S y else none
theorem LC {W:List TA} {f:TrS→TA→Option (Bool×TrS)} (hf:∀S y r S',S.ok→f S y=some (r,S')→S'.ok):∀(l:List TA),(∀y∈l,y∈W)→∀S r,S.ok→qF f S l=some r→qF (Yv W f) S l=some r
 |[],_,S,r,hS,h=>h
 |x::l,hl,S,r,hS,h=>by
  rw[qF]at h⊢;rw[Yv,if_pos ⟨hS,hl x (by simp)⟩]
  cases hq:f S x with
  |none=>rw[hq]at h;cases h
  |some q=>
   obtain⟨c,s2⟩:=q;rw[hq]at h;have h2:=hf _ _ _ _ hS hq;cases c
   ·exact LC hf l (fun y hy=>hl y (by simp[hy])) s2 r h2 h
   ·exact h
theorem Ql (QY:T.has 238 Ph) {e:dH} {loose:Bool} {a b x:TA} {S S':TrS} {r:Bool} {y:TA} (h:dB T.L 239 [.ptr 3 0,x.av,y.av] (kX e loose S) (.bool r) (kX e loose S')):
  dB T.L 238 [y.av,.ptr 5 0,.ptr 8 0] (Dh e loose a b x S) (.bool r) (Dh e loose a b x S'):=by
 refine dB.of 0 rfl (.bool _) (wH 9 (Nat.le_refl 9) e loose a b x S').at (aC.mono (Q:=fun r' H'=>∃J,r'=.ret (.bool r)∧H'=Dh e loose a b x S' ++J) ?_ fun r H' ⟨J,e1,e2⟩=>⟨_,_,J,e1,Weak.refl _,e2,rfl,fun i x y h1 h2=>by rw[h1]at h2;cases h2;exact bM.refl x⟩);refine aG QY (by simp[Ph]) ?_;have hl:=Cg x y;obtain⟨yk,ym,ys,yl⟩:=y;obtain⟨xk,xm,xs,xl⟩:=x;conv=>whnf
 refine h.to rfl hl (l8 _ _ _) (.bool _) (l8 _ _ _) [.cells [.ptr 3 0] 260,aZ a,aZ b,aZ (.mk xk xm xs xl),aZ (.mk yk ym ys yl)] rfl ?_;conv=>whnf
 exact⟨_,rfl,rfl⟩
theorem H6 (F:oQ T) {e:dH} {loose:Bool} (W:JW T e) {rel:TrS→TA→TA→Option (Bool×TrS)} (hR:LQ T e loose W.G rel) (WT:∀S a b r S',S.ok→rel S a b=some (r,S')→S'.ok):
  LQ T e loose W.G (fun S a b=>iB (fun S x=>qF (fun S y=>rP W.tx loose rel S x y) S (W.hd b)) S (W.hd a)):=by
 intro S a b r S' hS ha hb h;have hund:=fun x (hx:x∈W.hd a) y (hy:y∈W.hd b) S r S' hS h=>Ji F (loose:=loose) W hR WT a b x y ha hb hx hy S r S' hS h
 have huok:∀x S y r S',TrS.ok S→rP W.tx loose rel S x y=some (r,S')→S'.ok:=fun x S y r S' hS h=>NV WT S x y r S' hS h
 have hfok:∀x,∀S r S',TrS.ok S→qF (fun S y=>rP W.tx loose rel S x y) S (W.hd b)=some (r,S')→S'.ok:=fun x S r S' hS h=>
  EL (P:=TrS.ok) _ (fun s2 y b2 s2' _ hs2 he2=>huok x s2 y b2 s2' hs2 he2) _ _ _ hS h
 refine⟨sV (P:=TrS.ok) _ (fun s x b' s' _ hs he=>hfok x s b' s' hs he) _ _ _ hS h,?_⟩;have hHa:=W.heads a ha;have hHb:=W.heads b hb;have hla:=W.hlen a ha;have hlb:=W.hlen b hb
 have hcont:∀x (hx:x∈W.hd a) S r S',TrS.ok S→qF (fun S y=>rP W.tx loose rel S x y) S (W.hd b)=some (r,S')→dB T.L 212 [.lst (TA.avs (W.hd b)) .none,.fn (.func 238) [] [.ptr 5 0,.ptr 8 0]] (Dh e loose a b x S) (.bool r) (Dh e loose a b x S'):=fun x hx S r S' hS h=>
  zA F.Q0 F.KM (BB:=Dh e loose a b x) (p:=rB e loose a b x) (f:=Yv (W.hd b) fun S y=>rP W.tx loose rel S x y) ⟨fun s=>rfl,fun s=>(wH 9 (Nat.le_refl 9) e loose a b x s).at,fun s y c s' hq=>by
   unfold Yv at hq;split at hq
   ·rename_i hc
    exact Ql F.QY (hund x hx y hc.2 s c s' hc.1 hq)
   ·cases hq⟩ (W.hd b) hlb S r S' (LC (fun S y r S' hS h=>huok x S y r S' hS h) (W.hd b) (fun y hy=>hy) S _ hS h)
 replace h:iB (fun S x=>qF (fun S y=>rP W.tx loose rel S x y) S (W.hd b)) S (W.hd a)=some (r,S'):=h;generalize W.hd a=A at*;generalize W.hd b=B at*;refine dB.of 0 rfl (.bool _) (l8 e loose S') (aC.mono (Q:=fun r' H'=>∃J,r'=.ret (.bool r)∧H'=kX e loose S' ++J) ?_ fun r H' ⟨J,e1,e2⟩=>⟨_,_,J,e1,Weak.refl _,e2,rfl,fun i x y h1 h2=>by rw[h1]at h2;cases h2;exact bM.refl x⟩);refine aG F.XL (by simp[U6]) ?_;obtain⟨ak,am,abP,al⟩:=a;obtain⟨bk,bm,bs,bl⟩:=b;conv=>whnf
 refine hHb.to (dG (aT _ _)) (.lst _ _ trivial (aX 3 B)) [.cells [.ptr 2 0,.bool loose,tval S] 263,tobj S,.cells [.ptr 3 0] 260,aZ (.mk ak am abP al),aZ (.mk bk bm bs bl)] rfl ?_;conv=>whnf
 refine hHa.to (dG (aT _ _)) (.lst _ _ trivial (aX 3 A)) [.cells [.ptr 2 0,.bool loose,tval S] 263,tobj S,.cells [.ptr 3 0] 260,aZ (.mk ak am abP al),aZ (.mk bk bm bs bl)] rfl ?_;conv=>whnf
 intro I hI hG
 have key:∀(d j:Nat) (S1:TrS) (e':Env),A.length-j=d→j≤A.length→S1.ok→iB (fun S x=>qF (fun S y=>rP W.tx loose rel S x y) S B) S1 (A.drop j)=some (r,S')→
   I (fO e' [(3,.ptr 5 0),(7,.lst (TA.avs B) .none),(21,.lst (TA.avs A) .none),(22,.int .i64 A.length),(23,.int .i64 j)]) (kX e loose S1 ++[.cells [.ptr 3 0] 260,aZ (.mk ak am abP al),aZ (.mk bk bm bs bl)]):=by
  intro d
  induction d with
  |zero=>
   intro j S1 e' hd hj hok hf;have hjl:j=A.length:=by omega
   rw[hjl,List.drop_length,iB]at hf;cases hf;apply hI;conv=>whnf
   rw[bV (by omega)];conv=>whnf
   exact⟨_,rfl,rfl⟩
  |succ d ihd=>
   intro j S1 e' hd hj hok hf;have hjl:j<A.length:=by omega
   rw[List.drop_eq_getElem_cons hjl,iB]at hf;have hget:=mP hjl;have hmem:=List.getElem_mem hjl;have hnext:=fun S2 e'=>ihd (j+1) S2 e' (by omega) hjl
   generalize A[j]=x at hget hf hmem
   have hlJ:∀S,fG 8 (kX e loose S ++[.cells [.ptr 3 0] 260,aZ (.mk ak am abP al),aZ (.mk bk bm bs bl)]):=fun S=>
    ⟨eB 8 _ _,fD 8 _ _,dO ⟨.map _ (by decide:0<8),.map _ (by decide:1<8),trivial⟩,dO ⟨.ptr _ _ (by decide:2<8),.bool _,(qy S).mono (by decide),trivial⟩,sO 8 S,dO ⟨.ptr _ _ (by decide:3<8),trivial⟩,aI (Nat.zero_le _) (cu _),aI (Nat.zero_le _) (cu _),trivial⟩
   have hj1:j+1<9223372036854775808:=by omega
   cases hq:qF (fun S y=>rP W.tx loose rel S x y) S1 B with
   |none=>rw[hq]at hf;cases hf
   |some q=>
    obtain⟨c,S2⟩:=q;rw[hq]at hf;have hok2:=hfok x S1 c S2 hok hq;have hc:=hcont x hmem S1 c S2 hok hq;obtain⟨xk,xm,xs,xl⟩:=x;apply hI;conv=>whnf
    rw[dA hjl];conv=>whnf
    refine step_elem (Int.natCast_nonneg _) hget rfl ?_;conv=>whnf
    refine hc.to rfl (gB.at ⟨.lst _ _ trivial (aX _ B),.fn _ _ _ fP (gB.at ⟨.ptr _ _ (show 5<9 by decide),.ptr _ _ (show 8<9 by decide),trivial⟩),trivial⟩) (wH 9 (Nat.le_refl 9) _ _ _ _ _ _).at (.bool _) (wH 9 (Nat.le_refl 9) _ _ _ _ _ _).at [] rfl ?_;cases c
    ·cases hf
     conv=>whnf
     exact⟨_,rfl,rfl⟩
    ·have hf:iB (fun S x=>qF (fun S y=>rP W.tx loose rel S x y) S B) S2 (A.drop (j+1))=some (r,S'):=hf
     conv=>whnf
     exact hG.keep [(3,.ptr 5 0),(7,.lst (TA.avs B) .none),(21,.lst (TA.avs A) .none),(22,.int .i64 A.length),(23,.int .i64 (j+1:Nat))] (kX e loose S2 ++[.cells [.ptr 3 0] 260,aZ (.mk ak am abP al),aZ (.mk bk bm bs bl)]) (Nat.le_refl 8) rfl ⟨rfl,rfl,rfl,rfl,add1 hj1,trivial⟩
      ⟨.ptr _ _ (by decide:5<8),.lst _ _ trivial (aX 8 B),.lst _ _ trivial (aX 8 A),.int _ _,.int _ _,trivial⟩ (hlJ S2) (hnext _ _ hok2 hf)
 exact inv_of [(3,.ptr 5 0),(7,.lst (TA.avs B) .none),(21,.lst (TA.avs A) .none),(22,.int .i64 A.length),(23,.int .i64 0)] ⟨rfl,rfl,rfl,by show au.int .i64 ((TA.avs A).length:Nat)=_;rw[bY],rfl,trivial⟩ (key A.length 0 S _ rfl (Nat.zero_le _) hS h)
theorem zY (F:oQ T) {e:dH} {loose:Bool} (W:JW T e):∀n,LQ T e loose W.G (qL W.hd W.tx loose n)
 |0=>fun S a b r S' _ _ _ h=>by rw[qL]at h;cases h
 |n+1=>fun S a b r S' hS ha hb h=>H6 F W (zY F W n) (fun S a b r S' hS h=>Oi n S a b r S' hS h) S a b r S' hS ha hb (by rw[qL]at h;exact h)
def tr0 :TrS:=⟨0,[],0⟩
theorem R3 :tr0.ok:=⟨Nat.le_refl _,fun _=>rfl⟩
theorem JM {e:dH} {loose:Bool} {a b:TA} {r:Bool} {S':TrS} (h:dB T.L 202 [.ptr 3 0,a.av,b.av] (kX e loose tr0) (.bool r) (kX e loose S')) (oa ob:aU):
  aC T.L 202 [.ptr 6 0,a.av,b.av] (iW e ++[.dead,oa,ob,.cells [.ptr 2 0,.bool loose,.lst [] .nil] 263]) fun r' H'=>r'=.ret (.bool r)∧∃J,H'=iW e ++J:=by
 have hρ:∀i,i<3→nameOf [0,1,2,6,3] 7 i=i:=fun i hi=>by
  match i,hi with
  |0,_=>rfl
  |1,_=>rfl
  |2,_=>rfl
  |i+3,h=>omega
 have hlo:=sP e;have q:∀o∈iW e,iq (nameOf [0,1,2,6,3] 7) o=o:=fun o ho=>jr hρ (hlo o ho)
 have q0:=q (.map (dh e.by_ 0) e.by_.length) (by simp[iW]);have q1:=q (.map (gJ e.empty 0) e.empty.length) (by simp[iW]);have q2:=q (.cells [.map 0,.map 1] 234) (by simp[iW]);have q3:iq (nameOf [0,1,2,6,3] 7) (.cells [.ptr 2 0,.bool loose,.lst [] .nil] 263)=.cells [.ptr 2 0,.bool loose,.lst [] .nil] 263:=jr hρ (dO ⟨.ptr _ _ (by decide:2<3),.bool _,.lst _ _ trivial fP,trivial⟩)
 have hp:Part (iW e ++[.dead,oa,ob,.cells [.ptr 2 0,.bool loose,.lst [] .nil] 263]) [0,1,2,6,3] (kX e loose tr0):=by
  refine⟨by decide,rfl,fun k i o hk ho=>?_⟩;show(iW e ++[.dead,oa,ob,.cells [.ptr 2 0,.bool loose,.lst [] .nil] 263])[i]?=some (iq (nameOf [0,1,2,6,3] 7) o)
  match k,hk,ho with
  |0,hk,ho=>cases hk;cases ho;rw[q0];rfl
  |1,hk,ho=>cases hk;cases ho;rw[q1];rfl
  |2,hk,ho=>cases hk;cases ho;rw[q2];rfl
  |3,hk,ho=>
   cases hk;have:o=.cells [.ptr 2 0,.bool loose,.lst [] .nil] 263:=(Option.some.inj ho).symm;subst this;rw[q3];rfl
  |4,hk,ho=>
   cases hk;have:o=.dead:=(Option.some.inj ho).symm;subst this;rfl
  |k+5,hk,ho=>cases hk
 have hf:=aC.mZ h [0,1,2,6,3] hp (.inr fun r H' hq=>by rw[hq.2];exact Nat.le_refl 5)
 have hargs:[au.ptr 3 0,a.av,b.av].map (ren (nameOf [0,1,2,6,3] 7))=[.ptr 6 0,a.av,b.av]:=by
  rw[List.map_cons,List.map_cons,List.map_cons,iU hρ (aT 3 a),iU hρ (aT 3 b)];rfl
 rw[show [au.ptr 3 0,a.av,b.av].map (ren (nameOf [0,1,2,6,3] (iW e ++[.dead,oa,ob,.cells [.ptr 2 0,.bool loose,.lst [] .nil] 263]).length))=[.ptr 6 0,a.av,b.av]from hargs]at hf;refine hf.mono fun r' H' ⟨r1,H1',⟨e1,e2⟩,_,e3,e4⟩=>?_
 subst e1 e2;refine⟨e3,[iq (nameOf [0,1,2,6,3] 7) (tobj S'),oa,ob,iq (nameOf [0,1,2,6,3] 7) (.cells [.ptr 2 0,.bool loose,tval S'] 263)],e4.trans ?_⟩;show [iq (nameOf [0,1,2,6,3] 7) (.map (dh e.by_ 0) e.by_.length),iq (nameOf [0,1,2,6,3] 7) (.map (gJ e.empty 0) e.empty.length),iq (nameOf [0,1,2,6,3] 7) (.cells [.map 0,.map 1] 234),iq (nameOf [0,1,2,6,3] 7) (tobj S'),oa,ob,iq (nameOf [0,1,2,6,3] 7) (.cells [.ptr 2 0,.bool loose,tval S'] 263)]=_;rw[q0,q1,q2];rfl
theorem VD (F:oQ T) {e:dH} (W:JW T e) (a b:TA) (ha:W.G a) (hb:W.G b) (n:Nat) (r:Bool) (S':TrS) (h:qL W.hd W.tx false n tr0 a b=some (r,S')):EK T.L 162 [a.av,b.av] e (.bool r):=by
 obtain⟨_,hr⟩:=zY F W n tr0 a b r S' R3 ha hb h;have hc:=JM hr (aZ a) (aZ b);obtain⟨ak,am,abP,al⟩:=a;obtain⟨bk,bm,bs,bl⟩:=b;refine EK.of 1 (.bool _) (aG F.X3 (by simp[Vj]) ?_);conv=>whnf
 refine hc.mono fun r' H' ⟨e1,J,e2⟩=>?_
 subst e1 e2;conv=>whnf
 exact⟨_,_,rfl,Weak.refl _,rfl⟩
theorem RN (F:oQ T) {e:dH} (W:JW T e) (a b:TA) (ha:W.G a) (hb:W.G b) (n:Nat) (r:Bool) (S':TrS) (h:qL W.hd W.tx true n tr0 a b=some (r,S')):EK T.L 163 [a.av,b.av] e (.bool r):=by
 obtain⟨_,hr⟩:=zY F W n tr0 a b r S' R3 ha hb h;have hc:=JM hr (aZ a) (aZ b);obtain⟨ak,am,abP,al⟩:=a;obtain⟨bk,bm,bs,bl⟩:=b;refine EK.of 1 (.bool _) (aG F.XZ (by simp[Vi]) ?_);conv=>whnf
 refine hc.mono fun r' H' ⟨e1,J,e2⟩=>?_
 subst e1 e2;conv=>whnf
 exact⟨_,_,rfl,Weak.refl _,rfl⟩
end Go.Ag
/- A judge over good definitions and types answers as the greatest sound relation does. -/
namespace Go.Ag
open Go
structure gD (by_:List (Bytes×TA)) (e:dH) (C:List TA):Prop where
 ok:lg by_ e
 nodup:(by_.map (·.1)).Nodup
 mem:∀p∈by_,p.2∈C
 nt:∀t∈C,NT t
 cl:∀t∈C,∀x∈t.l,x∈C
 wt:∀t∈C,wtT t≤2^30
 fin:C.length≤2^19
 C8:∀t∈C,(sj e t).length≤2^30
def GC' (C:List TA) (t:TA):Prop:=GT t∧wtT t≤2^30∧aL t∈C
noncomputable def hdE (e:dH) (t:TA):List TA:=nV (sj e (aL t))
def txE (h:TA):Bytes:=prT (aL h) 0
variable {by_ : List (Bytes × TA)} {e : dH} {C : List TA}
theorem gD.ZQ (W:gD by_ e C):∀p∈by_,NT p.2:=fun p hp=>W.nt _ (W.mem p hp)
theorem gD.spr (W:gD by_ e C) {t y:TA} (h:Spr by_ t y):t∈C→y=bJ∨y∈C:=by
 induction h with
 |self t h7 h8=>exact fun ht=>.inr ht
 |part nm ns l x y hx h ih=>exact fun ht=>ih (W.cl _ ht x hx)
 |emp nm ns l h=>exact fun _=>.inl rfl
 |ref nm ns l y he h ih=>
  obtain⟨_,p,hp,h2⟩:=vM W.ZQ he;exact fun _=>ih (by rw[h2];exact W.mem p hp)
theorem gD.some (W:gD by_ e C) (t:TA) (ht:t∈C):∃n,bq e n t=some (sj e t)∧sj e t≠[]∧∀y∈sj e t,NT y∧y.kind≠7∧y.kind≠8:=by
 obtain⟨n,h⟩:=r9 W.ok W.nodup t;exact⟨n,h,Spr.some W.ZQ W.ok W.nodup n t _ (W.nt t ht) h,fun y hy=>((ql W.ok W.nodup t y).1 hy).nt W.ZQ (W.nt t ht)⟩
theorem gD.head (W:gD by_ e C) {t h:TA} (ht:GC' C t) (hh:h∈hdE e t):h=bJ∨(h∈C∧h.kind≠7∧h.kind≠8):=by
 rcases KD hh with h|h
 ·exact .inl h
 ·obtain⟨_,_,_,h3⟩:=W.some _ ht.2.2
  rcases W.spr ((ql W.ok W.nodup _ _).1 h) ht.2.2 with h'|h'
  ·exact .inl h'
  ·exact .inr ⟨h',(h3 _ h).2⟩
theorem gD.uJ (W:gD by_ e C) {t h:TA} (ht:GC' C t) (hh:h∈hdE e t):NT h∧wtT h≤2^30:=by
 rcases W.head ht hh with rfl|h
 ·exact⟨.dyn,by decide⟩
 ·exact⟨W.nt _ h.1,W.wt _ h.1⟩
theorem gD.heads (W:gD by_ e C):ng (GC' C) (hdE e)where
 sub:=fun t ht h hh x hx=>by
  rcases W.head ht hh with rfl|h'
  ·cases hx
  ·have hm:=W.cl _ h'.1 x hx
   exact⟨(W.nt x hm).gt,W.wt x hm,by rw[eY (W.nt x hm)];exact hm⟩
 fn:=fun t ht h hh h6=>by
  have:=(W.uJ ht hh).1;cases this<;>first|(cases h6;done)|exact⟨_,_,rfl⟩
 rcd:=fun t ht h hh h5=>by
  have:=(W.uJ ht hh).1;cases this<;>first|(cases h5;done)|skip
  rename_i ns l hs hl hn h;exact⟨hl,hs⟩
theorem gD.inj (W:gD by_ e C):∀a b x y,GC' C a→GC' C b→x∈hdE e a→y∈hdE e b→txE x=txE y→x=y:=fun a b x y ha hb hx hy h=>by
 have h1:=(W.uJ ha hx).1;have h2:=(W.uJ hb hy).1;unfold txE at h;rw[eY h1,eY h2]at h;exact h1.inj h2 h
def ppE (C:List TA):List (Bytes×Bytes):=(bJ::C).flatMap fun x=>(bJ::C).map fun y=>(prT x 0,prT y 0)
theorem gD.fin2 (W:gD by_ e C):Yz (GC' C) (hdE e) txE (ppE C):=fun a b x y ha hb hx hy=>by
 have key:∀{t h:TA},GC' C t→h∈hdE e t→h∈bJ::C:=fun ht hh=>by
  rcases W.head ht hh with rfl|h'
  ·simp
  ·simp[h'.1]
 unfold txE;rw[eY (W.uJ ha hx).1,eY (W.uJ hb hy).1];exact List.mem_flatMap.2 ⟨x,key ha hx,List.mem_map.2 ⟨y,key hb hy,rfl⟩⟩
theorem gD.finl (W:gD by_ e C):(ppE C).length<2^40:=by
 have h:∀(l:List TA) (m:Nat) (f:TA→List (Bytes×Bytes)),(∀x,(f x).length=m)→(l.flatMap f).length=l.length*m:=by
  intro l m f hf
  induction l with
  |nil=>simp
  |cons x l ih=>rw[List.flatMap_cons,List.length_append,hf,ih,List.length_cons,Nat.add_mul];omega
 unfold ppE;rw[h _ (bJ::C).length _ fun x=>by rw[List.length_map]];have:=W.fin;have h1:(bJ::C).length≤2^19+1:=by simp;omega
 exact Nat.lt_of_le_of_lt (Nat.mul_le_mul h1 h1) (by decide)
theorem MO (l:List TA):(gH l).length≤l.length:=by
 unfold gH;rw[List.length_map];have h1:=(Et (l6 (eF l))).length_le;have h2:=(lV (eF l)).length_eq;have h3:(eF l).length=l.length:=by simp[eF]
 omega
noncomputable def gD.jw {T:Tab} (W:gD by_ e C) (F:oQ T):JW T e where
 G:=GC' C
 hd:=hdE e
 tx:=txE
 heads:=fun t ht=>by
  obtain⟨n,h1,h2,h3⟩:=W.some _ ht.2.2
  have hE:∀p∈e.by_,wtT p.2≤2^40:=fun p hp=>by
   rw[W.ok.hby]at hp;have:=W.wt _ (W.mem p hp);omega
  have hw:∀y∈sj e (aL t),wtT y≤2^30:=fun y hy=>by
   rcases W.spr ((ql W.ok W.nodup _ _).1 hy) ht.2.2 with rfl|h'
   ·decide
   ·exact W.wt y h'
  have hl:=W.C8 _ ht.2.2;have hok:=J9 (fun y hy=>(h3 y hy).1) hl hw (by rw[zo fun y hy=>(h3 y hy).2.1];exact hl);have:=Nf F.towu e hE n t _ h1 hl (Ac ht.1 ht.2.1) (by have:=jm t;have:=ht.2.1;omega) hok;rw[Ea (fun y hy=>⟨(h3 y hy).1,(h3 y hy).2.1⟩) h2]at this;exact this
 hlen:=fun t ht=>by
  have hl:=W.C8 _ ht.2.2;have:=MO (sj e (aL t));unfold hdE nV;split
  ·decide
  ·omega
 text:=fun t ht h hh=>by
  obtain⟨h1,h2⟩:=W.uJ ht hh;have:=GU F.toyx h (Ac h1.gt h2) (by rw[eY h1];omega) (by rw[eY h1];exact h1.wf);exact this
 sub:=fun t ht h hh=>W.heads.sub t ht h hh
 fn:=fun t ht h hh=>W.heads.fn t ht h hh
 rcd:=fun t ht h hh h5=>by
  have h1:=W.heads.rcd t ht h hh h5;refine⟨h1.1,h1.2,?_⟩;have h2:=(W.uJ ht hh).2;obtain⟨k,nm,ns,l⟩:=h;rw[wtT]at h2;have:=YC ns;simp only[TA.names];omega
open Classical in
theorem gD.sub {T:Tab} (W:gD by_ e C) (F:oQ T) {a b:TA} (ha:GC' C a) (hb:GC' C b):EK T.L 162 [a.av,b.av] e (.bool (decide (LE (GC' C) (hdE e) false a b))):=by
 obtain⟨n,r,S',h⟩:=Bv (loose:=false) W.fin2 W.finl W.heads ha hb;have:=VD F (W.jw F) a b ha hb n r S' h;have hr:=Bw W.heads W.inj ha hb h
 have:decide (LE (GC' C) (hdE e) false a b)=r:=by
  cases r
  ·exact decide_eq_false fun hh=>by have:=hr.2 hh;cases this
  ·exact decide_eq_true (hr.1 rfl)
 rw[this];assumption
open Classical in
theorem gD.fits {T:Tab} (W:gD by_ e C) (F:oQ T) {a b:TA} (ha:GC' C a) (hb:GC' C b):EK T.L 163 [a.av,b.av] e (.bool (decide (LE (GC' C) (hdE e) true a b))):=by
 obtain⟨n,r,S',h⟩:=Bv (loose:=true) W.fin2 W.finl W.heads ha hb;have:=RN F (W.jw F) a b ha hb n r S' h;have hr:=Bw W.heads W.inj ha hb h
 have:decide (LE (GC' C) (hdE e) true a b)=r:=by
  cases r
  ·exact decide_eq_false fun hh=>by have:=hr.2 hh;cases this
  ·exact decide_eq_true (hr.1 rfl)
 rw[this];assumption
theorem CV {B:Nat} (hB:1≤B) (hE:lg by_ e) (hnd:(by_.map (·.1)).Nodup) (hx:∀nm,¬nO by_ nm→(sj e (dI by_ nm)).length≤B):∀n,(∀t ys,bq e n t=some ys→ys.length≤B*wtT t)∧(∀l ys,aY e n l=some ys→ys.length≤B*wtL l)
 |0=>⟨fun t ys h=>(by rw[bq]at h;cases h),fun l ys h=>(by rw[aY]at h;cases h)⟩
 |n+1=>by
  obtain⟨h1,h2⟩:=CV hB hE hnd hx n
  have hone:∀t:TA,B≤B*wtT t:=fun t=>by
   have:=BP t;exact Nat.le_mul_of_pos_right _ (by omega)
  refine⟨fun t ys h=>?_,fun l ys h=>?_⟩
  ·obtain⟨k,nm,ns,l⟩:=t
   have h0:=hone (.mk k nm ns l);rw[bq]at h;split at h
   ·split at h
    ·cases h;simp only[List.length_singleton];omega
    ·rename_i he
     have he:¬nO by_ nm:=fun h=>he ((mq hE hnd nm).2 h)
     rw[vY,hE.hby]at h;have:=hx nm he;rw[Og h]at this;omega
   ·split at h
    ·have:=h2 _ _ h
     have h3:=BP (.mk k nm ns l);exact Nat.le_trans this (Nat.mul_le_mul_left _ (by simp only[TA.l]at h3;omega))
    ·cases h;simp only[List.length_singleton];omega
  ·cases l with
   |nil=>rw[aY]at h;cases h;simp
   |cons t l=>
    rw[aY]at h
    cases hx:bq e n t with
    |none=>rw[hx]at h;cases h
    |some xs=>
     cases hr:aY e n l with
     |none=>rw[hx,hr]at h;cases h
     |some zs=>
      rw[hx,hr]at h;cases h;have k1:=h1 _ _ hx;have k2:=h2 _ _ hr;rw[wtL,List.length_append,Nat.mul_add,Nat.mul_add];omega
end Go.Ag
/- The greatest sound relation: laws of it. -/
namespace Go.Ag
open Go
section
variable {G : TA → Prop} {hd : TA → List TA} {loose : Bool}
theorem LE.out {a b:TA} (h:LE G hd loose a b):G a∧G b∧kQ hd loose (jF (LE G hd loose)) a b:=by
 obtain⟨R,hs,hab⟩:=h;obtain⟨h1,h2,h3⟩:=hs a b hab;exact⟨h1,h2,h3.mono fun x y hb=>hb.mono fun a b h=>⟨R,hs,h⟩⟩
theorem LE.coind {R:TA→TA→Prop} (hR:∀a b,R a b→G a∧G b∧kQ hd loose (jF fun a b=>R a b∨LE G hd loose a b) a b) {a b:TA} (h:R a b):LE G hd loose a b:=
 ⟨fun a b=>R a b∨LE G hd loose a b,fun a b h=>by
  rcases h with h|h
  ·exact hR a b h
  ·obtain⟨h1,h2,h3⟩:=h.out
   exact⟨h1,h2,h3.mono fun x y hb=>hb.mono fun a b h=>.inr h⟩,.inl h⟩
theorem LE.fold {a b:TA} (ha:G a) (hb:G b) (h:kQ hd loose (jF (LE G hd loose)) a b):LE G hd loose a b:=
 LE.coind (R:=fun x y=>x=a∧y=b) (fun x y ⟨h1,h2⟩=>by subst h1 h2;exact⟨ha,hb,h.mono fun x y hb=>hb.mono fun a b h=>.inr h⟩) ⟨rfl,rfl⟩
theorem kQ.congr {B:TA→TA→Prop} {a b a' b':TA} (h1:∀x,x∈hd a'→x∈hd a) (h2:∀x,x∈hd b→x∈hd b') (h:kQ hd loose B a b):kQ hd loose B a' b':=fun x hx=>
 let⟨y,hy,hu⟩:=h x (h1 x hx)
 ⟨y,h2 y hy,hu⟩
theorem LE.congr {a b a' b':TA} (ha:G a') (hb:G b') (h1:∀x,x∈hd a'→x∈hd a) (h2:∀x,x∈hd b→x∈hd b') (h:LE G hd loose a b):LE G hd loose a' b':=
 LE.fold ha hb (h.out.2.2.congr h1 h2)
end
mutual
def gW :TA→List TA
 |.mk k nm ns l=>.mk k nm ns l::uX l
def uX :List TA→List TA
 |[]=>[]
 |t::l=>gW t ++uX l
end
theorem rY {l:List TA} {x:TA}:x∈uX l↔∃t∈l,x∈gW t:=by
 induction l with
 |nil=>simp[uX]
 |cons t l ih=>rw[uX,List.mem_append,ih];simp
theorem pK (t:TA):t∈gW t:=by obtain⟨k,nm,ns,l⟩:=t;rw[gW];simp
theorem o7 :∀(n:Nat) (t:TA),wtT t≤n→(∀x∈gW t,wtT x≤wtT t∧∀y∈x.l,y∈gW t)∧16*(gW t).length≤wtT t
 |0,t,h=>by have:=BP t;omega
 |n+1,t,h=>by
  have ih:=o7 n;obtain⟨k,nm,ns,l⟩:=t;rw[wtT]at h;have hl:∀t∈l,wtT t+8≤wtL l:=fun t ht=>iR ht
  have hlen:16*(uX l).length≤wtL l:=by
   have:∀m:List TA,(∀t∈m,wtT t≤n)→16*(uX m).length≤wtL m:=by
    intro m
    induction m with
    |nil=>intro _;simp[uX]
    |cons t m ihm=>
     intro hm;rw[uX,List.length_append,wtL];have h1:=(ih t (hm t (by simp))).2;have h2:=ihm fun x hx=>hm x (by simp[hx])
     omega
   exact this l fun t ht=>by have:=hl t ht;omega
  refine⟨fun x hx=>?_,?_⟩
  ·rw[gW]at hx
   rcases List.mem_cons.1 hx with rfl|hx
   ·refine⟨Nat.le_refl _,fun y hy=>?_⟩
    rw[gW];exact List.mem_cons_of_mem _ (rY.2 ⟨y,hy,pK y⟩)
   ·obtain⟨t,ht,hx⟩:=rY.1 hx
    have h1:=hl t ht;obtain⟨k1,k2⟩:=(ih t (by omega)).1 x hx;refine⟨by rw[wtT];omega,fun y hy=>?_⟩;rw[gW];exact List.mem_cons_of_mem _ (rY.2 ⟨t,ht,k2 y hy⟩)
  ·rw[gW,List.length_cons,wtT];omega
theorem Hg :∀(n:Nat) (t:TA),wtT t≤n→NT t→∀x∈gW t,NT x
 |0,t,h=>by have:=BP t;omega
 |n+1,t,h=>by
  have ih:=Hg n;intro hn x hx;have hp:=hn.parts;obtain⟨k,nm,ns,l⟩:=t;rw[wtT]at h;rw[gW]at hx;rcases List.mem_cons.1 hx with rfl|hx
  ·exact hn
  ·obtain⟨t,ht,hx⟩:=rY.1 hx
   have:=iR ht;exact ih t (by omega) (hp t ht) x hx
variable {by_ : List (Bytes × TA)} {e : dH} {C : List TA}
theorem gD.Ik (W:gD by_ e C) {t x:TA} (ht:GC' C t):x∈hdE e t↔(Spr by_ (aL t) bJ∧x=bJ)∨(¬Spr by_ (aL t) bJ∧Spr by_ (aL t) x):=by
 obtain⟨_,_,h2,h3⟩:=W.some _ ht.2.2;have hi:=fun y=>ql W.ok W.nodup (aL t) y
 have hany:(sj e (aL t)).any (fun t=>t.kind==4)=true↔Spr by_ (aL t) bJ:=by
  rw[List.any_eq_true];refine⟨fun⟨y,hy,h4⟩=>?_,fun h=>⟨bJ,(hi bJ).2 h,rfl⟩⟩;have:=(h3 y hy).1.yh (by simpa using h4);rw[←this];exact(hi y).1 hy
 unfold hdE nV
 by_cases hd:Spr by_ (aL t) bJ
 ·rw[if_pos (hany.2 hd),List.mem_singleton]
  simp[hd]
 ·rw[if_neg fun h=>hd (hany.1 h),uj fun y hy=>(h3 y hy).1,hi]
  simp[hd]
theorem yJ {t x:TA} (h7:t.kind≠7) (h8:t.kind≠8):Spr by_ t x↔x=t:=by
 refine⟨fun h=>?_,fun h=>by subst h;exact .self _ h7 h8⟩
 cases h with
 |self=>rfl
 |part=>exact absurd rfl h7
 |emp=>exact absurd rfl h8
 |ref=>exact absurd rfl h8
theorem Oe {l:List TA} {x:TA}:Spr by_ (.mk 7 [] [] l) x↔∃t∈l,Spr by_ t x:=by
 refine⟨fun h=>?_,fun⟨t,ht,h⟩=>.part [] [] l t x ht h⟩
 cases h with
 |self h h7 _=>exact absurd rfl h7
 |part _ _ _ t _ ht h=>exact⟨t,ht,h⟩
theorem Bb {e:dH}:∀n,(∀t ys,iX t=[]→bq e n t=some ys→16*ys.length≤wtT t)∧(∀l ys,tu l=[]→aY e n l=some ys→16*ys.length≤wtL l)
 |0=>⟨fun t ys _ h=>(by rw[bq]at h;cases h),fun l ys _ h=>(by rw[aY]at h;cases h)⟩
 |n+1=>by
  obtain⟨h1,h2⟩:=Bb (e:=e) n;refine⟨fun t ys hb h=>?_,fun l ys hb h=>?_⟩
  ·obtain⟨k,nm,ns,l⟩:=t
   rw[iX]at hb;rw[bq]at h;split at h
   ·rename_i h8
    rw[if_pos h8]at hb;cases hb
   ·rename_i h8
    rw[if_neg h8]at hb;split at h
    ·rename_i h7
     rw[if_pos h7]at hb;have:=h2 _ _ hb h;rw[wtT];omega
    ·cases h;rw[wtT];simp only[List.length_singleton];omega
  ·cases l with
   |nil=>rw[aY]at h;cases h;simp
   |cons t l=>
    rw[tu]at hb;obtain⟨b1,b2⟩:=List.append_eq_nil_iff.1 hb;rw[aY]at h
    cases hx:bq e n t with
    |none=>rw[hx]at h;cases h
    |some xs=>
     cases hr:aY e n l with
     |none=>rw[hx,hr]at h;cases h
     |some zs=>
      rw[hx,hr]at h;cases h;have k1:=h1 _ _ b1 hx;have k2:=h2 _ _ b2 hr;rw[wtL,List.length_append];omega
theorem Yh (hE:lg by_ e) (hnd:(by_.map (·.1)).Nodup) (bs:List TA) (hb:∀p∈by_,p.2∈bs) (hn:∀t∈bs,NT t) (hw:∀t∈bs,wtT t≤2^16) (hl:bs.length≤16) (hbare:∀nm,¬nO by_ nm→iX (dI by_ nm)=[]):gD by_ e (bs.flatMap gW)where
 ok:=hE
 nodup:=hnd
 mem:=fun p hp=>List.mem_flatMap.2 ⟨p.2,hb p hp,pK _⟩
 nt:=fun t ht=>by
  obtain⟨b,hb,ht⟩:=List.mem_flatMap.1 ht;exact Hg _ b (Nat.le_refl _) (hn b hb) t ht
 cl:=fun t ht x hx=>by
  obtain⟨b,hb,ht⟩:=List.mem_flatMap.1 ht;exact List.mem_flatMap.2 ⟨b,hb,((o7 _ b (Nat.le_refl _)).1 t ht).2 x hx⟩
 wt:=fun t ht=>by
  obtain⟨b,hb,ht⟩:=List.mem_flatMap.1 ht;have h1:=((o7 _ b (Nat.le_refl _)).1 t ht).1;have h2:=hw b hb;omega
 fin:=by
  have:∀(l:List TA),(∀t∈l,wtT t≤2^16)→(l.flatMap gW).length≤l.length*2^12:=by
   intro l
   induction l with
   |nil=>intro _;simp
   |cons t l ih=>
    intro h;rw[List.flatMap_cons,List.length_append,List.length_cons,Nat.add_mul];have h1:=(o7 _ t (Nat.le_refl _)).2;have h2:=h t (by simp);have h3:=ih fun x hx=>h x (by simp[hx])
    omega
  have h1:=this bs hw;have h2:bs.length*2^12≤16*2^12:=Nat.mul_le_mul_right _ hl;omega
 C8:=fun t ht=>by
  obtain⟨b,hb',ht⟩:=List.mem_flatMap.1 ht;have h1:=((o7 _ b (Nat.le_refl _)).1 t ht).1;have h2:=hw b hb';obtain⟨n,hs⟩:=r9 hE hnd t
  have h3:=(CV (B:=2^12) (by decide) hE hnd (fun nm hne=>by
   obtain⟨m,hm⟩:=r9 hE hnd (dI by_ nm);have h4:=(Bb m).1 _ _ (hbare nm hne) hm;obtain⟨_,p,hp,h5⟩:=vM (fun p hp=>hn _ (hb p hp)) hne;have h6:=hw _ (hb p hp);rw[←h5]at h6
   omega) n).1 t _ hs
  have h7:2^12*wtT t≤2^12*2^16:=Nat.mul_le_mul_left _ (by omega);omega
end Go.Ag
/- Heads of a union. -/
namespace Go.Ag
open Go
variable {by_ : List (Bytes × TA)} {e : dH} {C : List TA}
theorem Fz {t x:TA} (ht:NT t):Spr by_ t x↔∃p∈dV t,Spr by_ p x:=by
 unfold dV;split
 ·rename_i h7
  cases ht with
  |uni l=>exact Oe
  |_=>cases h7
 ·simp
theorem Mk {l:List TA} {x:TA} (h0:l≠[]):Spr by_ (mO l) x↔∃p∈l,Spr by_ p x:=by
 match l,h0 with
 |[t],_=>simp[mO]
 |t::u::l,_=>exact Oe
theorem Sc {l:List TA} {x:TA} (hl:∀t∈l,NT t):(∃t∈l,Spr by_ t x)↔∃p∈aQ l,Spr by_ p x:=by
 refine⟨fun⟨t,ht,h⟩=>?_,fun⟨p,hp,h⟩=>?_⟩
 ·obtain⟨p,hp,h⟩:=(Fz (hl t ht)).1 h
  exact⟨p,tq.2 ⟨t,ht,hp⟩,h⟩
 ·obtain⟨t,ht,hp⟩:=tq.1 hp
  exact⟨t,ht,(Fz (hl t ht)).2 ⟨p,hp,h⟩⟩
theorem R9 {l:List TA} (hl:∀t∈l,GT t) (h0:l≠[]):(Spr by_ (aL (.mk 7 [] [] l)) bJ↔∃t∈l,Spr by_ (aL t) bJ)∧((¬∃t∈l,Spr by_ (aL t) bJ)→∀x,Spr by_ (aL (.mk 7 [] [] l)) x↔∃t∈l,Spr by_ (aL t) x):=by
 have hN:∀t∈dN l,NT t:=fun t ht=>by
  rw[dW]at ht;obtain⟨u,hu,rfl⟩:=List.mem_map.1 ht;exact jv (hl u hu)
 have hmap:∀x,(∃t∈l,Spr by_ (aL t) x)↔∃p∈aQ (dN l),Spr by_ p x:=fun x=>by
  rw[←Sc hN,dW];refine⟨fun⟨t,ht,h⟩=>⟨aL t,List.mem_map.2 ⟨t,ht,rfl⟩,h⟩,fun⟨t,ht,h⟩=>?_⟩;obtain⟨u,hu,rfl⟩:=List.mem_map.1 ht;exact⟨u,hu,h⟩
 have hne:aQ (dN l)≠[]:=KW hN (by rw[dW];simpa using h0);have hf:=vR hN;rw[aL,if_pos rfl,pJ]
 cases hd:(aQ (dN l)).find? (fun t=>t.kind==4)with
 |some t=>
  have hm:=List.mem_of_find?_eq_some hd;have h4:t.kind=4:=by simpa using List.find?_some (p:=fun t:TA=>t.kind==4) hd
  have:=(hf t hm).1.yh h4;subst this;have hdyn:∃t∈l,Spr by_ (aL t) bJ:=(hmap bJ).2 ⟨bJ,hm,.self _ (by decide) (by decide)⟩;exact⟨⟨fun _=>hdyn,fun _=>.self bJ (show bJ.kind≠7 by decide) (show bJ.kind≠8 by decide)⟩,fun h=>absurd hdyn h⟩
 |none=>
  have key:∀x,Spr by_ (mO (gH (aQ (dN l)))) x↔∃t∈l,Spr by_ (aL t) x:=fun x=>by
   rw[Mk (sG hne),hmap];refine⟨fun⟨p,hp,h⟩=>⟨p,kI hp,h⟩,fun⟨p,hp,h⟩=>⟨p,(uj fun t ht=>(hf t ht).1).2 hp,h⟩⟩
  exact⟨key bJ,fun _=>key⟩
theorem gD.rR (W:gD by_ e C) {t u x:TA} (ht:GC' C t) (hu:aL t=u) (h7:u.kind≠7) (h8:u.kind≠8):x∈hdE e t↔x=u:=by
 rw[W.Ik ht,hu,yJ h7 h8,yJ h7 h8]
 by_cases h:bJ=u
 ·subst h;simp
 ·simp[h]
end Go.Ag
/- Abstract codes, printed by a program of ours (acode.py) out of the given program's form. -/
namespace Go.Ag
open Go
def Pv :aN:=(.mk 2 9 [4] (.seq (.ops [(.d 3 (.box 175 1)),(.d 4 (.mv (.const (.str []))))]) (.seq (.ops [(.d 5 (.mv 0)),(.d 6 (.load (some 4) 3)),(.d 7 (.call 188 [5,6])),(.d 8 (.call 150 [7])),(.d 4 (.mv 8))]) .ret)))
def Pn :aN:=(.mk 1 21 [2] (.seq (.ops [(.d 1 (.box 109 0)),(.d 2 (.mv (.const (.i 0))))]) (.seq (.ops [(.d 3 (.mv (.const (.i 1))))]) (.seq (.seq (.ops [(.d 4 (.mv (.const (.i 0))))]) (.block 0 (.loop (.seq (.seq (.ops [(.d 5 (.mv 4)),(.d 6 (.aB 3 1)),(.d 7 (.load none 6)),(.d 8 (.jy 7)),(.d 9 (.bin .lss 5 8))]) (.cond 9 .skip (.exit 0))) (.seq (.block 1 (.ops [(.d 12 (.mv 3)),(.d 13 (.aB 3 1)),(.d 14 (.load none 13)),(.d 15 (.mv 4)),(.d 16 (.bB 4 14 15)),(.d 17 (.load (some 4) 16)),(.d 18 (.call 190 [17])),(.d 19 (.bin .add 12 18)),(.d 3 (.mv 19))])) (.ops [(.d 10 (.mv 4)),(.d 11 (.bin .add 10 (.const (.i 1)))),(.d 4 (.mv 11))])))))) (.seq (.ops [(.d 20 (.mv 3)),(.d 2 (.mv 20))]) .ret)))))
def Vp :aN:=(.mk 1 21 [2] (.seq (.ops [(.d 2 (.mv (.const (.bool false))))]) (.seq (.ops [(.d 3 (.mv (.const (.i 0))))]) (.seq (.seq (.ops [(.d 4 (.mv (.const (.i 0))))]) (.block 0 (.loop (.seq (.seq (.ops [(.d 5 (.mv 4)),(.d 6 (.mv 0)),(.d 7 (.jy 6)),(.d 8 (.bin .lss 5 7))]) (.cond 8 .skip (.exit 0))) (.seq (.block 1 (.ops [(.d 11 (.mv 3)),(.d 12 (.mv 0)),(.d 13 (.mv 4)),(.d 14 (.bB 5 12 13)),(.d 15 (.aB 1 14)),(.d 16 (.load (some 4) 15)),(.d 17 (.call 190 [16])),(.d 18 (.bin .add 11 17)),(.d 3 (.mv 18))])) (.ops [(.d 9 (.mv 4)),(.d 10 (.bin .add 9 (.const (.i 1)))),(.d 4 (.mv 10))])))))) (.seq (.ops [(.d 19 (.mv 3)),(.d 20 (.bin .leq 19 (.const (.i 60)))),(.d 2 (.mv 20))]) .ret)))))
def Pt :aN:=(.mk 1 75 [2,3,4] (.seq (.ops [(.d 2 (.mv (.const .eG))),(.d 3 (.mv (.const .nl))),(.d 4 (.mv (.const (.bool false))))]) (.seq (.seq (.ops [(.d 12 (.mv 0)),(.d 13 (.qA 12)),(.d 14 (.bin .gtr 13 (.const (.i 600))))]) (.cond 14 (.seq (.ops [(.d 2 (.mv (.const .eG))),(.d 3 (.mv (.const .nl))),(.d 4 (.mv (.const (.bool false))))]) .ret) .skip)) (.seq (.ops [(.d 16 (.mv 0)),(.d 17 (.call 189 [16])),(.d 15 (.mv 17)),(.d 18 (.ext 15 0)),(.d 19 (.ext 15 1)),(.d 5 (.mv 18)),(.d 6 (.mv 19))]) (.seq (.ops [(.d 21 (.mv 0)),(.d 22 (.call 24 [21])),(.d 20 (.mv 22)),(.d 23 (.ext 20 0)),(.d 24 (.ext 20 1)),(.d 7 (.mv 23)),(.d 8 (.mv 24))]) (.seq (.ops [(.d 9 (.mv (.const .nl)))]) (.seq (.ops [(.d 10 (.mv (.const .nl)))]) (.seq (.seq (.ops [(.d 11 (.mv (.const (.i 0))))]) (.block 0 (.loop (.seq (.seq (.ops [(.d 25 (.mv 11)),(.d 26 (.mv 5)),(.d 27 (.jy 26)),(.d 28 (.bin .lss 25 27))]) (.cond 28 .skip (.exit 0))) (.seq (.block 1 (.seq (.ops [(.d 31 (.mv 5)),(.d 32 (.mv 11)),(.d 33 (.bB 5 31 32)),(.d 34 (.aB 0 33)),(.d 35 (.load none 34)),(.d 36 (.bin .eql 35 (.const (.i 2))))]) (.cond 36 (.seq (.draw [(.d 37 (.mv 9)),(.d 38 (.mv 5)),(.d 39 (.mv 11)),(.d 40 (.bB 5 38 39)),(.d 41 (.aB 2 40)),(.d 42 (.load none 41)),(.d 43 (.mv 5)),(.d 44 (.mv 11)),(.d 45 (.bB 5 43 44)),(.d 46 (.aB 3 45)),(.d 47 (.load none 46)),(.d 48 (.bB 4 47 (.const (.i 0)))),(.d 49 (.load (some 4) 48)),(.d 50 (.build [(.str []),(.i 0),(.str []),.nl,.nl] [(0,(1,42)),(1,(4,49))])),(.d 51 (.lit 5 88 [] 1 [(0,50)]))] [(.d 52 (.append 5 88 182 37 51)),(.d 9 (.mv 52))]) (.draw [(.d 53 (.mv 10)),(.d 54 (.mv 7)),(.d 55 (.mv 11)),(.d 56 (.bB 5 54 55)),(.d 57 (.aB 2 56)),(.d 58 (.load none 57)),(.d 59 (.mv 7)),(.d 60 (.mv 11)),(.d 61 (.bB 5 59 60)),(.d 62 (.aB 3 61)),(.d 63 (.load none 62)),(.d 64 (.bB 4 63 (.const (.i 0)))),(.d 65 (.load (some 4) 64)),(.d 66 (.build [(.str []),(.i 0),(.str []),.nl,.nl] [(0,(1,58)),(1,(4,65))])),(.d 67 (.lit 5 88 [] 1 [(0,66)]))] [(.d 68 (.append 5 88 244 53 67)),(.d 10 (.mv 68))])) .skip))) (.ops [(.d 29 (.mv 11)),(.d 30 (.bin .add 29 (.const (.i 1)))),(.d 11 (.mv 30))])))))) (.seq (.ops [(.d 69 (.mv 9)),(.d 70 (.call 144 [69])),(.d 71 (.mv 10)),(.d 72 (.mv 9)),(.d 73 (.jy 72)),(.d 74 (.bin .leq 73 (.const (.i 8)))),(.d 2 (.mv 70)),(.d 3 (.mv 71)),(.d 4 (.mv 74))]) .ret)))))))))
end Go.Ag
/- Package types: all, Size. -/
namespace Go.Ag
open Go
variable {T : Tab} {L : Lnk}
mutual
def allT :TA→List TA
 |.mk k nm ns l=>.mk k nm ns l::zI l
def zI :List TA→List TA
 |[]=>[]
 |t::l=>allT t ++zI l
end
end Go.Ag
/- Package parse: expressions: the document's reader gives up once; the fields of a record. -/
namespace Go.Ag
open Go
structure BadEx (n:Nat):Prop where
 expr:∀(d:Nat) (s:RS),s.bad=true→(bZ n d s).2=s
 fn:∀(d:Nat) (a:Int) (p:dD×RS),p.2.bad=true→(BU n d a p).2=p.2
 lt:∀(d:Nat) (a:Int) (p:dD×RS),p.2.bad=true→(BR n d a p).2=p.2
 ie:∀(d:Nat) (a:Int) (s:RS),s.bad=true→(ifR n d a s).2=s
 el:∀(d:Nat) (a:Int) (x:EA) (q:EA×RS),q.2.bad=true→(uO n d a x q).2=q.2
 post:∀(d:Nat) (x:EA) (s:RS),s.bad=true→(l7 n d x s).2=s
 basic:∀(d:Nat) (s:RS),s.bad=true→(fF n d s).2=s
 as_:∀(d:Nat) (a:Int) (q:EA×RS),q.2.bad=true→(asR n d a q).2=q.2
 fields:∀(d:Nat) (a:Int) (names:List Bytes) (l:List EA) (s:RS),s.bad=true→(fE n d a names l s).2=s
theorem dL :∀n:Nat,BadEx n:=by
 intro n
 induction n with
 |zero=>exact⟨fun d s h=>by unfold bZ;rfl,fun d a p h=>by unfold BU;rfl,fun d a p h=>by unfold BR;rfl,fun d a s h=>by unfold ifR;rfl,fun d a x q h=>by unfold uO;rfl,fun d x s h=>by unfold l7;rfl,fun d s h=>by unfold fF;rfl,fun d a q h=>by unfold asR;rfl,fun d a ns l s h=>by unfold fE;rfl⟩
 |succ n ih=>
  refine⟨fun d s h=>?_,fun d a p h=>?_,fun d a p h=>?_,fun d a s h=>?_,fun d a x q h=>?_,fun d x s h=>?_,fun d s h=>?_,fun d a q h=>?_,fun d a ns l s h=>?_⟩
  ·unfold bZ
   rw[show jY d s=s from by unfold jY;rw[Aw h];split<;>rfl,if_pos h]
  ·unfold BU
   rw[bL h,if_pos h]
  ·unfold BR
   dsimp only;rw[bL h,ih.expr _ _ h,bL h,ih.expr _ _ h]
  ·unfold ifR
   rw[ih.expr _ _ h,bL h,ih.el _ _ _ _ (by rw[ih.expr _ _ h];exact h),ih.expr _ _ h]
  ·unfold uO
   dsimp only;rw[bL h,ih.expr _ _ h]
  ·unfold l7
   rw[kU h,kU h,if_neg (by simp),if_neg (by simp)]
  ·unfold fF
   rw[if_pos h]
  ·rw[asR,kU h,if_neg (by simp)]
   exact bL h _
  ·unfold fE
   rw[h,kU h,if_neg (by simp)];exact bL h _
def eSt (d:Nat):Nat→Bytes→List (Bytes×EA)→RS→List (Bytes×EA)×RS:=fun n nm x s=>
 (if nm=[]∨(bZ n (d+1) s).2.bad=true then x else x ++[(nm,(bZ n (d+1) s).1)],(bZ n (d+1) s).2)
theorem vX (d:Nat) (at_:Int):∀(n:Nat) (x:List (Bytes×EA)) (s:RS),s.ok→6*s.rem+8≤n→
  (fE n d at_ (x.map (·.1)) (x.map (·.2)) s).2=(dM kEq (eSt d) n (x.map (·.1)) x s).2∧
  ((dM kEq (eSt d) n (x.map (·.1)) x s).2.bad=false→(fE n d at_ (x.map (·.1)) (x.map (·.2)) s).1=.mk 5 at_ [] 0 ((dM kEq (eSt d) n (x.map (·.1)) x s).1.map (·.1)) ((dM kEq (eSt d) n (x.map (·.1)) x s).1.map (·.2)) [])
 |0,x,s,hs,hf=>by omega
 |n+1,x,s,hs,hf=>by
  rw[fE,dM]
  by_cases h1:(!s.bad&& !isR s kRb)=true
  ·rw[if_pos h1,if_pos h1]
   by_cases h2:(aD (aK s).2 kEq).bad=true
   ·rw[if_pos h2,if_pos h2]
    exact⟨rfl,fun e=>by rw[h2]at e;cases e⟩
   ·rw[if_neg h2,if_neg h2]
    have h2':(aD (aK s).2 kEq).bad=false:=by simpa using h2
    have k1:=lI hs kEq h2';have k2:=(bT hs).trans (aM (hs.of (bT hs)) kEq);have htr:=tN hs kEq h2'
    by_cases h3:lY (x.map (·.1)) (aK s).1.text=true
    ·rw[if_pos h3,if_pos h3]
     have k3:=(fV n).expr (d+1) _ (hs.of k1);have k4:=gY ((hs.of k1).of k3);have r1:=k3.rem;have r2:=k4.rem;have r3:(gy (aD (aK s).2 kEq) (aK s).1).rem=(aD (aK s).2 kEq).rem:=rfl;have:=vX d at_ n x _ (((hs.of k1).of k3).of k4) (by omega);exact this
    ·rw[if_neg h3,if_neg h3]
     obtain⟨h4,_,_⟩:=jo h2';obtain⟨_,h6,h7⟩:=qx h4
     have hne:(aK s).1.text≠[]:=by
      rw[h7];exact hs.named _ (List.mem_of_getElem? (uW hs)) h6
     have k3:=(fV n).expr (d+1) _ (hs.of k2);have k4:=gY ((hs.of k2).of k3);have hok:=((hs.of k2).of k3).of k4;have r1:=k3.rem;have r2:=k4.rem;simp only[eSt];generalize bZ n (d+1) (aD (aK s).2 kEq)=q at hok k3 k4 r1 r2⊢
     by_cases h5:q.2.bad=true
     ·rw[if_pos (.inr h5),uL h5,mo h5]
      exact⟨(dL n).fields _ _ _ _ _ h5,fun e=>by rw[h5]at e;cases e⟩
     ·rw[if_neg (fun e=>e.elim hne h5)]
      have:=vX d at_ n (x ++[((aK s).1.text,q.1)]) _ hok (by omega);rw[List.map_append,List.map_append]at this;exact this
  ·rw[if_neg h1,if_neg h1]
   exact⟨rfl,fun _=>rfl⟩
end Go.Ag

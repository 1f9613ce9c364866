/- Our texts, joined by a program of ours (join.py): part 8 of 9. -/
import Derived.Test.YtmjgjmaljdgcpaaGreatDoorTextG
import Derived.KernelRfl
import Derived.Deep.Draws
import Derived.Lib.IndexMore
import Derived.Lib.Join
import Derived.Lib.Bytealg
import Derived.Laws.AppendOwn
import Derived.Sort.EncStr
import Derived.Sort.Grow
import Derived.Sort.Row
import Derived.Shelf.GgSortFunc.InsertionK
import Derived.Lib.ParseIntB
import Derived.Lib.AtoiErrMem
set_option linter.unusedVariables false
/- Abstract codes, printed by a program of ours (acode.py) out of the given program's form. -/
namespace Go.Ag
open Go
def Uy :aM:=(.mk 2 93 [(.cell 4 (some 7))] (.seq (.ops [(.d 4 (.alloc [(.i 0),(.i 0),(.str []),(.i 0),.nl,.nl,.nl] 313))]) (.seq (.ops [(.d 9 (.mv 0)),(.d 10 (.mv 1)),(.d 11 (.call 219 [9,10]))]) (.seq (.ops [(.d 12 (.mv 0)),(.d 13 (.call 218 [12])),(.d 14 (.fld 1 none 13)),(.d 15 (.build [(.i 0),(.i 0),(.str []),(.i 0),.nl,.nl,.nl] [(1,(1,14))])),(.d 5 (.alloc [(.i 0),(.i 0),(.str []),(.i 0),.nl,.nl,.nl] 313)),(.n (.store 7 5 15))]) (.seq (.block 0 (.seq (.ops [(.d 20 (.mv 0)),(.d 21 (.call 221 [20,(.const (.str [102,117,110]))])),(.d 19 (.mv 21))]) (.cond 19 (.seq (.ops [(.d 22 (.mv 0)),(.d 23 (.call 260 [22,(.const (.str [40]))]))]) (.seq (.ops [(.d 24 (.mv 0)),(.d 25 (.call 259 [24])),(.d 26 (.fld 2 none 25)),(.d 27 (.aB 0 5)),(.n (.store 1 27 (.const (.i 8)))),(.d 28 (.aB 2 5)),(.n (.store 1 28 26))]) (.seq (.ops [(.d 29 (.mv 0)),(.d 30 (.call 260 [29,(.const (.str [58]))]))]) (.seq (.ops [(.d 31 (.mv 0)),(.d 32 (.mv 1)),(.d 33 (.bin .add 32 (.const (.i 1)))),(.d 34 (.call 184 [31,33])),(.d 35 (.lit 4 72 [] 1 [(0,34)])),(.d 36 (.aB 6 5)),(.n (.store 1 36 35))]) (.seq (.ops [(.d 37 (.mv 0)),(.d 38 (.call 260 [37,(.const (.str [41]))]))]) (.ops [(.d 39 (.mv 0)),(.d 40 (.mv 1)),(.d 41 (.bin .add 40 (.const (.i 1)))),(.d 42 (.call 261 [39,41])),(.d 43 (.lit 7 112 [] 1 [(0,42)])),(.d 44 (.aB 5 5)),(.n (.store 1 44 43))])))))) (.seq (.ops [(.d 46 (.mv 0)),(.d 47 (.call 221 [46,(.const (.str [108,101,116]))])),(.d 45 (.mv 47))]) (.cond 45 (.seq (.ops [(.d 48 (.mv 0)),(.d 49 (.call 259 [48])),(.d 50 (.fld 2 none 49)),(.d 51 (.aB 0 5)),(.n (.store 1 51 (.const (.i 9)))),(.d 52 (.aB 2 5)),(.n (.store 1 52 50))]) (.seq (.ops [(.d 53 (.mv 0)),(.d 54 (.call 260 [53,(.const (.str [61]))]))]) (.seq (.ops [(.d 55 (.mv 0)),(.d 56 (.mv 1)),(.d 57 (.bin .add 56 (.const (.i 1)))),(.d 58 (.call 261 [55,57])),(.d 6 (.alloc [(.i 0),(.i 0),(.str []),(.i 0),.nl,.nl,.nl] 313)),(.n (.store 7 6 58))]) (.seq (.ops [(.d 59 (.mv 0)),(.d 60 (.call 260 [59,(.const (.str [105,110]))]))]) (.iy [(.d 61 (.load (some 7) 6)),(.d 62 (.mv 0)),(.d 63 (.mv 1)),(.d 64 (.bin .add 63 (.const (.i 1))))] (.alt (.d 65 (.call 261 [62,64])) [((some 7),6)] (.alt (.d 66 (.lit 7 112 [] 2 [(0,61),(1,65)])) [] (.alt (.d 67 (.aB 5 5)) [] (.alt (.n (.store 1 67 66)) [] .done .stop) .stop) .stop) .stop)))))) (.seq (.ops [(.d 69 (.mv 0)),(.d 70 (.call 221 [69,(.const (.str [105,102]))])),(.d 68 (.mv 70))]) (.cond 68 (.seq (.ops [(.d 71 (.aB 0 5)),(.n (.store 1 71 (.const (.i 10))))]) (.seq (.ops [(.d 72 (.mv 0)),(.d 73 (.mv 1)),(.d 74 (.bin .add 73 (.const (.i 1)))),(.d 75 (.call 261 [72,74])),(.d 7 (.alloc [(.i 0),(.i 0),(.str []),(.i 0),.nl,.nl,.nl] 313)),(.n (.store 7 7 75))]) (.seq (.ops [(.d 76 (.mv 0)),(.d 77 (.call 260 [76,(.const (.str [116,104,101,110]))]))]) (.seq (.ops [(.d 78 (.mv 0)),(.d 79 (.mv 1)),(.d 80 (.bin .add 79 (.const (.i 1)))),(.d 81 (.call 261 [78,80])),(.d 8 (.alloc [(.i 0),(.i 0),(.str []),(.i 0),.nl,.nl,.nl] 313)),(.n (.store 7 8 81))]) (.seq (.ops [(.d 82 (.mv 0)),(.d 83 (.call 260 [82,(.const (.str [101,108,115,101]))]))]) (.iy [(.d 84 (.load (some 7) 7)),(.d 85 (.load (some 7) 8)),(.d 86 (.mv 0)),(.d 87 (.mv 1)),(.d 88 (.bin .add 87 (.const (.i 1))))] (.alt (.d 89 (.call 261 [86,88])) [((some 7),7),((some 7),8)] (.alt (.d 90 (.lit 7 112 [] 3 [(0,84),(1,85),(2,89)])) [] (.alt (.d 91 (.aB 5 5)) [] (.alt (.n (.store 1 91 90)) [] .done .stop) .stop) .stop) .stop))))))) (.seq (.ops [(.d 16 (.mv 0)),(.d 17 (.mv 1)),(.d 18 (.call 296 [16,17])),(.n (.store 7 4 18))]) .ret)))))))) (.seq (.ops [(.d 92 (.load (some 7) 5)),(.n (.store 7 4 92))]) .ret))))))
def Uo :aM:=(.mk 2 42 [(.cell 4 (some 7))] (.seq (.ops [(.d 4 (.alloc [(.i 0),(.i 0),(.str []),(.i 0),.nl,.nl,.nl] 313))]) (.seq (.ops [(.d 9 (.mv 0)),(.d 10 (.mv 1)),(.d 11 (.call 316 [9,10])),(.d 5 (.alloc [(.i 0),(.i 0),(.str []),(.i 0),.nl,.nl,.nl] 313)),(.n (.store 7 5 11))]) (.block 0 (.loop (.block 1 (.seq (.ops [(.d 12 (.mv 0)),(.d 13 (.call 218 [12])),(.d 14 (.fld 1 none 13)),(.d 6 (.mv 14))]) (.block 2 (.seq (.ops [(.d 17 (.mv 0)),(.d 18 (.call 221 [17,(.const (.str [40]))])),(.d 16 (.mv 18))]) (.cond 16 (.seq (.ops [(.d 19 (.mv 0)),(.d 20 (.mv 1)),(.d 21 (.bin .add 20 (.const (.i 1)))),(.d 22 (.call 261 [19,21])),(.d 7 (.alloc [(.i 0),(.i 0),(.str []),(.i 0),.nl,.nl,.nl] 313)),(.n (.store 7 7 22))]) (.seq (.ops [(.d 23 (.mv 0)),(.d 24 (.call 260 [23,(.const (.str [41]))]))]) (.ops [(.d 25 (.mv 6)),(.d 26 (.load (some 7) 5)),(.d 27 (.load (some 7) 7)),(.d 28 (.lit 7 112 [] 2 [(0,26),(1,27)])),(.d 29 (.build [(.i 0),(.i 0),(.str []),(.i 0),.nl,.nl,.nl] [(0,(1,(.const (.i 7)))),(1,(1,25)),(5,(1,28))])),(.n (.store 7 5 29))]))) (.seq (.ops [(.d 31 (.mv 0)),(.d 32 (.call 221 [31,(.const (.str [46]))])),(.d 30 (.mv 32))]) (.cond 30 (.seq (.ops [(.d 33 (.mv 0)),(.d 34 (.call 259 [33])),(.d 8 (.alloc [(.i 0),(.i 0),(.str [])] 282)),(.n (.store 3 8 34))]) (.ops [(.d 35 (.aB 1 8)),(.d 36 (.load none 35)),(.d 37 (.aB 2 8)),(.d 38 (.load none 37)),(.d 39 (.load (some 7) 5)),(.d 40 (.lit 7 112 [] 1 [(0,39)])),(.d 41 (.build [(.i 0),(.i 0),(.str []),(.i 0),.nl,.nl,.nl] [(0,(1,(.const (.i 6)))),(1,(1,36)),(2,(1,38)),(5,(1,40))])),(.n (.store 7 5 41))])) (.seq (.ops [(.d 15 (.load (some 7) 5)),(.n (.store 7 4 15))]) .ret)))))))))))))
def Ul :aM:=(.mk 2 93 [(.cell 4 (some 7))] (.seq (.ops [(.d 2 (.box 225 0)),(.d 3 (.box 4 1)),(.d 4 (.alloc [(.i 0),(.i 0),(.str []),(.i 0),.nl,.nl,.nl] 313))]) (.seq (.ops [(.d 8 (.load none 2)),(.d 9 (.call 218 [8])),(.d 5 (.alloc [(.i 0),(.i 0),(.str [])] 282)),(.n (.store 3 5 9))]) (.seq (.ops [(.d 10 (.aB 1 5)),(.d 11 (.load none 10)),(.d 12 (.build [(.i 0),(.i 0),(.str []),(.i 0),.nl,.nl,.nl] [(1,(1,11))])),(.d 6 (.alloc [(.i 0),(.i 0),(.str []),(.i 0),.nl,.nl,.nl] 313)),(.n (.store 7 6 12))]) (.seq (.seq (.ops [(.d 13 (.aB 0 5)),(.d 14 (.load none 13))]) (.block 0 (.seq (.ops [(.d 16 (.bin .eql 14 (.const (.i 3)))),(.d 15 (.mv 16))]) (.cond 15 (.seq (.ops [(.d 17 (.load none 2)),(.d 18 (.aJ 17)),(.d 19 (.aB 1 18)),(.d 20 (.load none 19)),(.d 21 (.bin .add 20 (.const (.i 1)))),(.d 22 (.aJ 17)),(.d 23 (.aB 1 22)),(.n (.store 1 23 21))]) (.seq (.ops [(.d 24 (.aB 0 6)),(.n (.store 1 24 (.const (.i 1))))]) (.seq (.ops [(.d 26 (.aB 2 5)),(.d 27 (.load none 26)),(.d 28 (.call 322 [27,(.const (.i 10)),(.const (.i 64))])),(.d 25 (.mv 28)),(.d 29 (.ext 25 0)),(.d 30 (.ext 25 1)),(.d 31 (.aB 3 6)),(.n (.store 1 31 29))]) (.seq (.ops [(.d 32 (.load (some 7) 6)),(.n (.store 7 4 32))]) .ret)))) (.seq (.seq (.ops [(.d 34 (.bin .eql 14 (.const (.i 4)))),(.d 33 (.mv 34))]) (.cond 33 .skip (.ops [(.d 35 (.bin .eql 14 (.const (.i 1)))),(.d 33 (.mv 35))]))) (.cond 33 (.seq (.ops [(.d 36 (.load none 2)),(.d 37 (.aJ 36)),(.d 38 (.aB 1 37)),(.d 39 (.load none 38)),(.d 40 (.bin .add 39 (.const (.i 1)))),(.d 41 (.aJ 36)),(.d 42 (.aB 1 41)),(.n (.store 1 42 40))]) (.seq (.iy [(.d 43 (.aB 2 5)),(.d 44 (.load none 43)),(.d 45 (.aB 0 6))] (.alt (.n (.store 1 45 (.const (.i 2)))) [(none,43)] (.alt (.d 46 (.aB 2 6)) [] (.alt (.n (.store 1 46 44)) [] .done .stop) .stop) .stop)) (.seq (.seq (.ops [(.d 47 (.aB 0 5)),(.d 48 (.load none 47)),(.d 49 (.bin .eql 48 (.const (.i 1))))]) (.cond 49 (.ops [(.d 50 (.aB 0 6)),(.n (.store 1 50 (.const (.i 4))))]) .skip)) (.seq (.ops [(.d 51 (.load (some 7) 6)),(.n (.store 7 4 51))]) .ret)))) .skip)))))) (.seq (.block 1 (.seq (.ops [(.d 53 (.load none 2)),(.d 54 (.call 221 [53,(.const (.str [116,114,117,101]))])),(.d 52 (.mv 54))]) (.cond 52 (.seq (.ops [(.d 55 (.aB 0 6)),(.n (.store 1 55 (.const (.i 3)))),(.d 56 (.aB 3 6)),(.n (.store 1 56 (.const (.i 1))))]) (.seq (.ops [(.d 57 (.load (some 7) 6)),(.n (.store 7 4 57))]) .ret)) (.seq (.ops [(.d 59 (.load none 2)),(.d 60 (.call 221 [59,(.const (.str [102,97,108,115,101]))])),(.d 58 (.mv 60))]) (.cond 58 (.seq (.ops [(.d 61 (.aB 0 6)),(.n (.store 1 61 (.const (.i 3))))]) (.seq (.ops [(.d 62 (.load (some 7) 6)),(.n (.store 7 4 62))]) .ret)) (.seq (.ops [(.d 64 (.load none 2)),(.d 65 (.call 221 [64,(.const (.str [123]))])),(.d 63 (.mv 65))]) (.cond 63 (.seq (.ops [(.d 66 (.aB 0 6)),(.n (.store 1 66 (.const (.i 5))))]) (.seq (.ops [(.d 67 (.load none 2)),(.d 68 (.mkF (.func 323) [] [2,3,6])),(.d 69 (.call 306 [67,(.const (.str [61])),68]))]) (.seq (.ops [(.d 70 (.load (some 7) 6)),(.n (.store 7 4 70))]) .ret))) .skip))))))) (.seq (.ops [(.d 71 (.load none 2)),(.d 72 (.call 260 [71,(.const (.str [40]))]))]) (.seq (.ops [(.d 73 (.load none 2)),(.d 74 (.load none 3)),(.d 75 (.bin .add 74 (.const (.i 1)))),(.d 76 (.call 261 [73,75])),(.d 7 (.alloc [(.i 0),(.i 0),(.str []),(.i 0),.nl,.nl,.nl] 313)),(.n (.store 7 7 76))]) (.seq (.seq (.ops [(.d 77 (.load none 2)),(.d 78 (.call 221 [77,(.const (.str [58]))]))]) (.cond 78 (.seq (.iy [(.d 79 (.load (some 7) 7)),(.d 80 (.lit 7 112 [] 1 [(0,79)])),(.d 81 (.load none 2)),(.d 82 (.load none 3)),(.d 83 (.bin .add 82 (.const (.i 1)))),(.d 86 (.aB 0 6))] (.alt (.d 84 (.call 184 [81,83])) [((some 7),7)] (.alt (.d 85 (.lit 4 72 [] 1 [(0,84)])) [] (.alt (.n (.store 1 86 (.const (.i 11)))) [((some 7),7)] (.alt (.d 87 (.aB 5 6)) [] (.alt (.n (.store 1 87 80)) [] (.alt (.d 88 (.aB 6 6)) [] (.alt (.n (.store 1 88 85)) [] .done .stop) .stop) .stop) .stop) .stop) (.alt (.n (.store 1 86 (.const (.i 11)))) [((some 7),7)] (.alt (.d 85 (.lit 4 72 [] 1 [(0,84)])) [] (.alt (.d 87 (.aB 5 6)) [] (.alt (.n (.store 1 87 80)) [] (.alt (.d 88 (.aB 6 6)) [] (.alt (.n (.store 1 88 85)) [] .done .stop) .stop) .stop) .stop) (.alt (.d 87 (.aB 5 6)) [] (.alt (.d 85 (.lit 4 72 [] 1 [(0,84)])) [] (.alt (.n (.store 1 87 80)) [] (.alt (.d 88 (.aB 6 6)) [] (.alt (.n (.store 1 88 85)) [] .done .stop) .stop) .stop) (.alt (.n (.store 1 87 80)) [] (.alt (.d 85 (.lit 4 72 [] 1 [(0,84)])) [] (.alt (.d 88 (.aB 6 6)) [] (.alt (.n (.store 1 88 85)) [] .done .stop) .stop) .stop) .stop)) .stop)) .stop)) .stop)) (.ops [(.d 89 (.load (some 7) 6)),(.n (.store 7 7 89))])) .skip)) (.seq (.ops [(.d 90 (.load none 2)),(.d 91 (.call 260 [90,(.const (.str [41]))]))]) (.seq (.ops [(.d 92 (.load (some 7) 7)),(.n (.store 7 4 92))]) .ret)))))))))))
def Uk :aM:=(.mk 4 24 [] (.seq (.ops [(.d 6 (.load none 1)),(.d 7 (.load none 2)),(.d 8 (.bin .add 7 (.const (.i 1)))),(.d 9 (.call 261 [6,8])),(.d 5 (.alloc [(.i 0),(.i 0),(.str []),(.i 0),.nl,.nl,.nl] 313)),(.n (.store 7 5 9))]) (.seq (.ops [(.d 10 (.mv 0)),(.d 11 (.bin .neq 10 (.const (.str []))))]) (.cond 11 (.iy [(.d 12 (.aB 4 3)),(.d 13 (.load none 12)),(.d 14 (.mv 0)),(.d 15 (.lit 1 16 [] 1 [(0,14)])),(.d 17 (.aB 5 3)),(.d 18 (.load none 17)),(.d 19 (.load (some 7) 5)),(.d 20 (.lit 7 112 [] 1 [(0,19)]))] (.alt (.d 16 (.append 1 16 10 13 15)) [] (.alt (.d 21 (.append 7 112 313 18 20)) [] (.alt (.d 22 (.aB 4 3)) [] (.alt (.n (.store 1 22 16)) [] (.alt (.d 23 (.aB 5 3)) [] (.alt (.n (.store 1 23 21)) [] .done .stop) .stop) .stop) .stop) (.alt (.d 22 (.aB 4 3)) [] (.alt (.d 21 (.append 7 112 313 18 20)) [] (.alt (.n (.store 1 22 16)) [] (.alt (.d 23 (.aB 5 3)) [] (.alt (.n (.store 1 23 21)) [] .done .stop) .stop) .stop) .stop) .stop)) .stop)) .skip))))
def UL :aM:=(.mk 1 60 [(.cell 2 (some 5))] (.seq (.ops [(.d 2 (.alloc [(.i 0),(.i 0),(.str []),.nl,.nl] 242))]) (.seq (.ops [(.d 3 (.alloc [(.i 0),(.i 0),(.str []),.nl,.nl] 242))]) (.seq (.block 0 (.seq (.ops [(.d 8 (.mv 0)),(.d 9 (.call 221 [8,(.const (.str [117,115,101]))])),(.d 7 (.mv 9))]) (.cond 7 (.ops [(.d 10 (.aB 0 3)),(.n (.store 1 10 (.const (.i 1))))]) (.seq (.ops [(.d 12 (.mv 0)),(.d 13 (.call 221 [12,(.const (.str [116,121,112,101]))])),(.d 11 (.mv 13))]) (.cond 11 (.ops [(.d 14 (.aB 0 3)),(.n (.store 1 14 (.const (.i 2))))]) (.seq (.ops [(.d 16 (.mv 0)),(.d 17 (.call 221 [16,(.const (.str [108,101,116]))])),(.d 15 (.mv 17))]) (.cond 15 (.ops [(.d 18 (.aB 0 3)),(.n (.store 1 18 (.const (.i 3))))]) (.ops [(.d 5 (.mv 0)),(.d 6 (.call 248 [5,(.const (.i 2))]))])))))))) (.seq (.ops [(.d 19 (.mv 0)),(.d 20 (.call 259 [19])),(.d 4 (.alloc [(.i 0),(.i 0),(.str [])] 282)),(.n (.store 3 4 20))]) (.seq (.iy [(.d 21 (.aB 1 4)),(.d 22 (.load none 21)),(.d 23 (.aB 2 4)),(.d 24 (.load none 23)),(.d 25 (.aB 1 3))] (.alt (.n (.store 1 25 22)) [(none,23)] (.alt (.d 26 (.aB 2 3)) [] (.alt (.n (.store 1 26 24)) [] .done .stop) .stop) .stop)) (.seq (.seq (.ops [(.d 27 (.aB 0 3)),(.d 28 (.load none 27)),(.d 29 (.bin .eql 28 (.const (.i 3)))),(.d 30 (.mv 29)),(.g 31 (.mv 0) 30 true),(.g 32 (.call 221 [31,(.const (.str [58]))]) 30 true),(.d 33 (.pick 30 32 (.const (.bool false))))]) (.cond 33 (.ops [(.d 34 (.mv 0)),(.d 35 (.call 184 [34,(.const (.i 1))])),(.d 36 (.lit 4 72 [] 1 [(0,35)])),(.d 37 (.aB 3 3)),(.n (.store 1 37 36))]) .skip)) (.seq (.seq (.ops [(.d 38 (.aB 0 3)),(.d 39 (.load none 38)),(.d 40 (.bin .neq 39 (.const (.i 1))))]) (.cond 40 (.ops [(.d 41 (.mv 0)),(.d 42 (.call 260 [41,(.const (.str [61]))]))]) .skip)) (.seq (.seq (.ops [(.d 43 (.aB 0 3)),(.d 44 (.load none 43)),(.d 45 (.bin .eql 44 (.const (.i 2))))]) (.cond 45 (.ops [(.d 46 (.mv 0)),(.d 47 (.call 184 [46,(.const (.i 1))])),(.d 48 (.lit 4 72 [] 1 [(0,47)])),(.d 49 (.aB 3 3)),(.n (.store 1 49 48))]) .skip)) (.seq (.seq (.ops [(.d 50 (.aB 0 3)),(.d 51 (.load none 50)),(.d 52 (.bin .eql 51 (.const (.i 3))))]) (.cond 52 (.ops [(.d 53 (.mv 0)),(.d 54 (.call 261 [53,(.const (.i 1))])),(.d 55 (.lit 7 112 [] 1 [(0,54)])),(.d 56 (.aB 4 3)),(.n (.store 1 56 55))]) .skip)) (.seq (.ops [(.d 57 (.mv 0)),(.d 58 (.call 260 [57,(.const (.str [59]))]))]) (.seq (.ops [(.d 59 (.load (some 5) 3)),(.n (.store 5 2 59))]) .ret))))))))))))
def UK :aM:=(.mk 1 18 [] (.block 0 (.loop (.seq (.seq (.ops [(.d 2 (.mv 0)),(.d 3 (.call 218 [2])),(.d 4 (.fld 0 none 3)),(.d 5 (.bin .neq 4 (.const (.i 6)))),(.d 6 (.mv 5)),(.g 7 (.mv 0) 6 true),(.g 8 (.call 221 [7,(.const (.str [59]))]) 6 true),(.g 9 (.un .not 8) 6 true),(.d 10 (.pick 6 9 (.const (.bool false))))]) (.cond 10 .skip (.exit 0))) (.block 1 (.ops [(.d 11 (.mv 0)),(.d 12 (.aJ 11)),(.d 13 (.aB 1 12)),(.d 14 (.load none 13)),(.d 15 (.bin .add 14 (.const (.i 1)))),(.d 16 (.aJ 11)),(.d 17 (.aB 1 16)),(.n (.store 1 17 15))]))))))
def U3 :aM:=(.mk 1 35 [2,3] (.seq (.ops [(.d 2 (.mv (.const .nl))),(.d 3 (.mv (.const .nl)))]) (.seq (.ops [(.d 10 (.mv 0)),(.d 11 (.call 215 [10])),(.d 9 (.mv 11)),(.d 12 (.ext 9 0)),(.d 13 (.ext 9 1)),(.d 4 (.mv 12)),(.d 5 (.mv 13))]) (.seq (.ops [(.d 14 (.mv 4)),(.d 15 (.mv 5)),(.d 16 (.build [.nl,(.i 0),.nl] [(0,(1,14)),(2,(1,15))])),(.d 17 (.box 280 16)),(.d 6 (.alloc [.eD] 225)),(.n (.store 1 6 17))]) (.seq (.ops [(.d 7 (.mv (.const .nl)))]) (.seq (.block 0 (.loop (.seq (.seq (.ops [(.d 18 (.load none 6)),(.d 19 (.call 218 [18])),(.d 20 (.fld 0 none 19)),(.d 21 (.bin .neq 20 (.const (.i 6))))]) (.cond 21 .skip (.exit 0))) (.block 1 (.seq (.ops [(.d 8 (.alloc [(.i 0),(.i 0),(.str []),.nl,.nl] 242))]) (.seq (.ops [(.d 22 (.mkF (.func 227) [] [6,8])),(.d 23 (.call 216 [22]))]) (.cond 23 (.ops [(.d 24 (.mv 7)),(.d 25 (.load (some 5) 8)),(.d 26 (.lit 5 80 [] 1 [(0,25)])),(.d 27 (.append 5 80 242 24 26)),(.d 7 (.mv 27))]) (.ops [(.d 28 (.load none 6)),(.d 29 (.call 229 [28]))])))))))) (.seq (.draw [(.d 30 (.mv 7)),(.d 31 (.load none 6)),(.d 32 (.aJ 31)),(.d 33 (.aB 2 32)),(.d 34 (.load none 33)),(.d 2 (.mv 30)),(.d 3 (.mv 34))] []) .ret)))))))
def UM :aM:=(.mk 2 4 [] (.ops [(.d 2 (.load none 0)),(.d 3 (.call 228 [2])),(.n (.store 5 1 3))]))
end Go.Ag
/- Package parse: expressions: steps of the parser, told for use; a record's fields. -/
namespace Go.Ag
open Go
variable {T : Tab} {L : Lnk}
def Eu (n d:Nat) (s:RS):EA×RS:=mg n d (fD n d s).1 (fD n d s).2
structure PEx (T:Tab) (n:Nat):Prop where
 expr:∀(d:Nat) (s:RS),s.ok→s.bad=false→d≤65→6*s.rem+8≤n→PC T.L 261 [.int .i64 d] s (bZ n d s).1.av (bZ n d s).2
 call:∀(d:Nat) (s:RS),s.ok→s.bad=false→d≤64→6*s.rem+7≤n→PC T.L 296 [.int .i64 d] s (Eu n d s).1.av (Eu n d s).2
 basic:∀(d:Nat) (s:RS),s.ok→s.bad=false→d≤64→6*s.rem+7≤n→PC T.L 316 [.int .i64 d] s (fD n d s).1.av (fD n d s).2
structure VA (L:Lnk):Prop where
 num:∀s:Bytes,yT s→Pure L 322 [.str s,.int .i64 10,.int .i64 64] (.tup [.int .i64 (tZ s),.eT])
structure yA (T:Tab):Prop extends GD T where
 Xk:T.has 261 Uy
 WY:T.has 296 Uo
 WU:T.has 316 Ul
 WT:T.has 323 Uk
 num:VA T.L
theorem aT.kI {s' s3:RS} {y:au} {J H':Heap} (h:s'=s3) (hs:s3.bad=true) (hH:H'=aW s3 ++J):aT L s' y (.pan gup) H':=by
 subst h;exact aT.pan hs hH
section steps
variable {s : RS} (hs : s.ok) (hb : s.bad = false) {H : Heap} {K KP : au → Heap → Prop} (J : Heap) (hH : H = aW s ++ J)
include hs hb hH
theorem dZ.qQ (F:dZ T) (w:Bytes) (hn:isR s w=false→K (.bool false) (aW s ++J))
  (hy:∀s',isR s w=true→aD s w=s'→s'.ok→s'.bad=false→s'.rem+1=s.rem→K (.bool true) (aW s' ++J)):aC T.L 221 [.ptr 1 0,.str w] H (eB K KP):=
 F.take hs hb w J hH hn fun h=>hy _ h rfl (hs.of (aL hs w)) (by rw[jL h];exact hb) (eO hs h)
theorem dZ.oO (F:dZ T) (w:Bytes) (hk:∀s',aD s w=s'→s'.ok→s'.bad=false→s'.rem+1=s.rem→K (.tup []) (aW s' ++J))
  (hp:∀s',aD s w=s'→s'.bad=true→KP gup (aW s' ++J)):aC T.L 260 [.ptr 1 0,.str w] H (eB K KP):=
 F.want hs hb w J hH (fun h=>hk _ rfl (hs.of (aL hs w)) h (eO hs (ji h).2.1)) fun h=>hp _ rfl h
theorem dZ.FU (F:dZ T) (hk:∀k a x s',aK s=(⟨k,a,x⟩,s')→s'.ok→s'.bad=false→s'.rem≤s.rem→K (dA.av ⟨k,a,x⟩) (aW s' ++J))
  (hp:∀t s',aK s=(t,s')→s'.bad=true→KP gup (aW s' ++J)):aC T.L 259 [.ptr 1 0] H (eB K KP):=
 F.name hs hb J hH (fun h=>hk _ _ _ _ rfl (hs.of (bS hs)) h (bS hs).rem) fun h=>hp _ _ rfl h
theorem GD.VN (F:GD T) (n d:Nat) (hd:d≤65) (hf:6*s.rem+6≤n) (hk:∀k nm ns l s',bM n d s=(.mk k nm ns l,s')→s'.ok→s'.bad=false→s'.rem≤s.rem→K (TA.mk k nm ns l).av (aW s' ++J))
  (hp:∀t s',bM n d s=(t,s')→s'.bad=true→KP gup (aW s' ++J)):aC T.L 184 [.ptr 1 0,.int .i64 d] H (eB K KP):=by
 have h:=(Om F n).typ d s hs hb hd hf;have hle:=(bN n).1 d s hs;generalize bM n d s=q at h hle hk hp;obtain⟨⟨k,nm,ns,l⟩,s'⟩:=q;exact h.to (dD (.int _ _)) (aQ _ _) J hH (fun h=>hk _ _ _ _ _ rfl (hs.of hle) h hle.rem) fun h=>hp _ _ rfl h
theorem PEx.xG {n:Nat} (F:PEx T n) (d:Nat) (hd:d≤65) (hf:6*s.rem+8≤n) (hk:∀k p nm v ns l ts s',bZ n d s=(.mk k p nm v ns l ts,s')→s'.ok→s'.bad=false→s'.rem≤s.rem→K (EA.mk k p nm v ns l ts).av (aW s' ++J))
  (hp:∀t s',bZ n d s=(t,s')→s'.bad=true→KP gup (aW s' ++J)):aC T.L 261 [.ptr 1 0,.int .i64 d] H (eB K KP):=by
 have h:=F.expr d s hs hb hd hf;have hle:=(fT n).expr d s hs;generalize bZ n d s=q at h hle hk hp;obtain⟨⟨k,p,nm,v,ns,l,ts⟩,s'⟩:=q;exact h.to (dD (.int _ _)) (iN _ _) J hH (fun h=>hk _ _ _ _ _ _ _ _ rfl (hs.of hle) h hle.rem) fun h=>hp _ _ rfl h
end steps
def lF (x:List (Bytes×EA)):List au:=aO (x.map (·.1))
def lC (x:List (Bytes×EA)):List au:=EA.avs (x.map (·.2))
theorem MS (x:List (Bytes×EA)):(lF x).length=x.length:=by unfold lF;rw[fQ,List.length_map]
theorem MN (x:List (Bytes×EA)):(lC x).length=x.length:=by unfold lC;rw[OQ,List.length_map]
def Rh (d:Nat) (t:dA) (x:List (Bytes×EA)):Nat→aU
 |0=>bC (lF x).length 10
 |1=>bC (lC x).length 313
 |2=>.dead
 |3=>.cells [.ptr 1 0] 225
 |4=>.cells [.int .i64 d] 4
 |5=>.cells [.int .i64 0,.int .i64 0,.str [],.int .i64 0,.lst [] .nil,.lst [] .nil,.lst [] .nil] 313
 |6=>.cells [.int .i64 t.kind,.int .i64 t.at_,.str t.text] 282
 |_=>.cells [.int .i64 5,.int .i64 t.at_,.str [],.int .i64 0,.lst (lF x) (bK (lF x).length 2),.lst (lC x) (bK (lC x).length 3),.lst [] .nil] 313
theorem zi (d:Nat) (t:dA) (x:List (Bytes×EA)):∀i,i<8→bI 10 (Rh d t x i)
 |0,_=>bG _ _ _
 |1,_=>bG _ _ _
 |2,_=>trivial
 |3,_=>dH ⟨.ptr _ _ (by decide:1<10),trivial⟩
 |4,_=>dH ⟨.int _ _,trivial⟩
 |5,_=>dH ⟨.int _ _,.int _ _,.str _,.int _ _,.lst _ _ trivial fK,.lst _ _ trivial fK,.lst _ _ trivial fK,trivial⟩
 |6,_=>dH ⟨.int _ _,.int _ _,.str _,trivial⟩
 |7,_=>dH ⟨.int _ _,.int _ _,.str _,.int _ _,dQ _ _ _ (dO (by decide:2<10)),.lst _ _ (dO (by decide:3<10)) (wD _ _),.lst _ _ trivial fK,trivial⟩
 |n+8,h=>by omega
theorem IG (F:yA T) {n:Nat} (ih:PEx T n) (d:Nat) (hd:d≤64) (t:dA) (nm:Bytes) (x:List (Bytes×EA)) (s:RS) (hs:s.ok) (hb:s.bad=false) (hf:6*s.rem+8≤n)
  (hl:x.length+s.rem+1≤2^34):
  aC T.L 323 [.str nm,.ptr 5 0,.ptr 6 0,.ptr 9 0] (aW s ++kZ (Rh d t) x) fun r H'=>∃J,xH T.L r (wX (eSt d n nm x s).2.bad (.tup []))∧H'=aW (eSt d n nm x s).2 ++(kZ (Rh d t) (eSt d n nm x s).1 ++J):=by
 refine aG F.WT (by simp[Uk]) ?_;unfold eSt;conv=>whnf
 rw[addN (by omega)];refine ih.xG hs hb _ rfl (d+1) (by omega) hf (fun k p en v ns l ts s' hq hs' hb' hr=>?_) fun e s' hq hb'=>?_
 ·rw[hq]
  conv=>whnf
  by_cases hne:nm=[]
  ·subst hne
   rw[if_pos (.inl rfl)];conv=>whnf
   exact⟨_,by rw[hb'];exact Weak.refl _,rfl⟩
  ·rw[if_neg (fun h=>h.elim hne fun h=>absurd (hb'.symm.trans h) (by decide))]
   rw[show(nm==([]:Bytes))=false from by simpa using hne];have e1:lF (x ++[(nm,.mk k p en v ns l ts)])=lF x ++[.str nm]:=by simp[lF,aO]
   have e2:lC (x ++[(nm,.mk k p en v ns l ts)])=lC x ++[(EA.mk k p en v ns l ts).av]:=by unfold lC;rw[List.map_append,Eh];rfl
   have n1:=MS x;have n2:=MN x;have sX:dB 1 (lF x):=iY _;have sY:dB 7 (lC x):=zS _
   have hH:∀J:Heap,kZ (Rh d t) (x ++[(nm,.mk k p en v ns l ts)]) ++J=[bC (lF x ++[au.str nm]).length 10,bC (lC x ++[(EA.mk k p en v ns l ts).av]).length 313,.dead,.cells [.ptr 1 0] 225,.cells [.int .i64 d] 4,
     .cells [.int .i64 0,.int .i64 0,.str [],.int .i64 0,.lst [] .nil,.lst [] .nil,.lst [] .nil] 313,.cells [.int .i64 t.kind,.int .i64 t.at_,.str t.text] 282,
     .cells [.int .i64 5,.int .i64 t.at_,.str [],.int .i64 0,.lst (lF x ++[au.str nm]) (bK (lF x ++[au.str nm]).length 2),.lst (lC x ++[(EA.mk k p en v ns l ts).av]) (bK (lC x ++[(EA.mk k p en v ns l ts).av]).length 3),.lst [] .nil] 313] ++J:=fun J=>by
    rw[←e1,←e2];rfl
   have hH0:kZ (Rh d t) x=[bC (lF x).length 10,bC (lC x).length 313,.dead,.cells [.ptr 1 0] 225,.cells [.int .i64 d] 4,
     .cells [.int .i64 0,.int .i64 0,.str [],.int .i64 0,.lst [] .nil,.lst [] .nil,.lst [] .nil] 313,.cells [.int .i64 t.kind,.int .i64 t.at_,.str t.text] 282,
     .cells [.int .i64 5,.int .i64 t.at_,.str [],.int .i64 0,.lst (lF x) (bK (lF x).length 2),.lst (lC x) (bK (lC x).length 3),.lst [] .nil] 313]:=rfl
   rw[hH0];simp only[hH];generalize lF x=XS at n1 sX⊢;generalize lC x=YS at n2 sY⊢;clear hH hH0 e1 e2
   have a1:∀{H:Heap} {K:au→Heap→Prop} {tk:Tok},H[2]?=some (bC XS.length 10)→K (.lst (XS ++[.str nm]) (bK (XS ++[au.str nm]).length 2)) (H.set 2 (bC (XS ++[au.str nm]).length 10))→lH 1 16 10 (.lst XS (bK XS.length 2)) (.lst [.str nm] tk) H K:=
    fun h1 h2=>dS sX (bP rfl) (by simp[n1];omega) (by simp[n1];omega) (by simp) h1 h2
   have a2:∀{H:Heap} {K:au→Heap→Prop} {tk:Tok},H[3]?=some (bC YS.length 313)→K (.lst (YS ++[(EA.mk k p en v ns l ts).av]) (bK (YS ++[(EA.mk k p en v ns l ts).av]).length 3)) (H.set 3 (bC (YS ++[(EA.mk k p en v ns l ts).av]).length 313))→lH 7 112 313 (.lst YS (bK YS.length 3)) (.lst [(EA.mk k p en v ns l ts).av] tk) H K:=
    fun h1 h2=>dS sY (bP rfl) (by simp[n2];omega) (by simp[n2];omega) (by simp) h1 h2
   conv=>whnf
   refine a1 rfl ?_;conv=>whnf
   refine⟨?_,?_⟩
   all_goals
    conv=>whnf
    refine a2 rfl ?_;conv=>whnf
    exact⟨_,by rw[hb'];exact Weak.refl _,rfl⟩
 ·rw[hq]
  conv=>whnf
  rw[if_pos (.inr hb')];exact⟨_,by rw[hb'];exact Weak.refl _,rfl⟩
def OM :List au:=[.ptr 5 0,.ptr 6 0,.ptr 9 0]
theorem TV (F:yA T) (N:Nat) (ih:∀m,m≤N→PEx T m) (d:Nat) (hd:d≤64) (t:dA):vV T (Rh d t) (eSt d) (fun x seen=>x.map (·.1)=seen) 323 OM N where
 FY:=fun x hx=>by
  simp only[OM,List.mem_cons,List.not_mem_nil,or_false]at hx;rcases hx with rfl|rfl|rfl<;>exact .ptr _ _ (by decide)
 loo:=zi d t
 le:=fun n nm x s hs=>(fT n).expr (d+1) s hs
 none:=fun n x s seen h=>by rw[eSt,if_pos (.inl rfl)];exact h
 some:=fun n nm x s seen h h1 h2 h3=>by
  simp only[eSt]at h3⊢;rw[if_neg (fun e=>e.elim h1 fun e=>by rw[h3]at e;cases e),List.map_append,h];rfl
 item:=fun n nm x s seen h1 h2 h3 h4 h5 h6 h7 h8=>by
  subst h5;refine jf.of 0 rfl (mW bH) (kT (zi d t) _ _) ((IG F (ih n h1) d hd t nm x s h2 h3 h4 (by rw[List.length_map]at h6;exact h6)).mono fun r H' ⟨J,e1,e2⟩=>⟨_,J,e1,by rw[e2,List.append_assoc],rfl,fun i o o' h1 h2=>by rw[h1]at h2;cases h2;exact bJ.refl o⟩)
end Go.Ag
/- Package parse: basic. -/
namespace Go.Ag
open Go
variable {T : Tab} {L : Lnk}
set_option maxHeartbeats 2000000 in
theorem JV (F:yA T) (n:Nat) (ih:∀m,m≤n→PEx T m) (d:Nat) (s:RS) (hs:s.ok) (hb:s.bad=false) (hd:d≤64) (hf:6*s.rem+7≤n+1):PC T.L 316 [.int .i64 d] s (fD (n+1) d s).1.av (fD (n+1) d s).2:=by
 refine PC.of 3 (iN _ _) (aG F.WU (by simp[Ul]) ?_);obtain⟨R,hR⟩:∃R,fD (n+1) d s=R:=⟨_,rfl⟩;rw[hR];rw[fD,if_neg (by simp[hb])]at hR;have F':=F.todZ;conv=>whnf
 refine F'.here hs hb _ rfl ?_;conv=>whnf
 cases hk3:(s.tok.kind==3)
 ·conv=>whnf
  cases hk4:(s.tok.kind==4)
  case' true=>
   have h4:s.tok.kind=4:=by simpa using hk4
   rw[if_neg (by rw[h4];decide),if_neg (by rw[h4];decide),if_pos h4]at hR;have hk1:(s.tok.kind==1)=false:=by rw[h4];rfl
   conv=>whnf
   rw[addN hs.i];refine⟨⟨rfl,trivial⟩,?_⟩;conv=>whnf
   rw[hk1];conv=>whnf
   subst hR;exact aT.ret hb (eU 2 s.tok.at_ s.tok.text 0 [] [] [] _ _ _) rfl
  ·have h4:¬s.tok.kind=4:=by simpa using hk4
   have h3:¬s.tok.kind=3:=by simpa using hk3
   conv=>whnf
   cases hk1:(s.tok.kind==1)
   case' true=>
    have h1:s.tok.kind=1:=by simpa using hk1
    rw[if_pos h1]at hR;conv=>whnf
    rw[addN hs.i];refine⟨⟨rfl,trivial⟩,?_⟩;conv=>whnf
    rw[hk1];conv=>whnf
    subst hR;exact aT.ret hb (eU 4 s.tok.at_ s.tok.text 0 [] [] [] _ _ _) rfl
   ·have h1:¬s.tok.kind=1:=by simpa using hk1
    rw[if_neg h1,if_neg h3,if_neg h4]at hR;conv=>whnf
    refine F'.qQ hs hb _ rfl F4 (fun h5=>?_) fun s1 h5 hq hs1 hb1 hr=>?_
    ·rw[if_neg (by simp[h5])]at hR
     conv=>whnf
     refine F'.qQ hs hb _ rfl Ah (fun h6=>?_) fun s1 h6 hq hs1 hb1 hr=>?_
     ·rw[if_neg (by simp[h6])]at hR
      conv=>whnf
      refine F'.qQ hs hb _ rfl kLb (fun h7=>?_) fun s1 h7 hq hs1 hb1 hr=>?_
      ·rw[if_neg (by simp[h7])]at hR
       conv=>whnf
       refine F'.oO hs hb _ rfl kLp (fun s1 hq hs1 hb1 hr=>?_) fun s1 hq hb1=>?_
       ·rw[hq,if_neg (by simp[hb1])]at hR
        conv=>whnf
        rw[addN (by omega)];refine(ih n (Nat.le_refl _)).xG hs1 hb1 _ rfl (d+1) (by omega) (by omega) (fun k p nm v ns l ts s2 hq hs2 hb2 hr2=>?_) fun e s2 hq hb2=>?_
        ·rw[hq]at hR
         obtain⟨m,rfl⟩:∃m,n=m+1:=⟨n-1,by omega⟩;rw[asR]at hR;conv=>whnf
         refine F'.qQ hs2 hb2 _ rfl aS (fun h8=>?_) fun s3 h8 hq hs3 hb3 hr3=>?_
         ·rw[if_neg (by simp[h8])]at hR
          conv=>whnf
          refine F'.oO hs2 hb2 _ rfl kRp (fun s3 hq hs3 hb3 hr3=>?_) fun s3 hq hb3=>?_
          ·conv=>whnf
           rw[hq]at hR;subst hR;exact aT.ret hb3 (Weak.refl _) rfl
          ·conv=>whnf
           rw[hq]at hR;subst hR;exact aT.kI rfl hb3 rfl
         ·rw[if_pos h8,hq]at hR
          conv=>whnf
          rw[addN (by omega)];refine F.toGD.VN hs3 hb3 _ rfl m (d+1) (by omega) (by omega) (fun k' nm' ns' l' s4 hq hs4 hb4 hr4=>?_) fun t s4 hq hb4=>?_
          ·rw[hq]at hR
           have fin:∀{H':Heap} {J:Heap} {K KP:au→Heap→Prop},H'=aW s4 ++J→(∀s5,R=(.mk 11 s.tok.at_ [] 0 [] [.mk k p nm v ns l ts] [.mk k' nm' ns' l'],s5)→s5.bad=false→K (.tup []) (aW s5 ++J))→(R.2.bad=true→KP gup (aW R.2 ++J))→aC T.L 260 [.ptr 1 0,.str kRp] H' (eB K KP):=fun hH hk hp=>by
            refine F'.oO hs4 hb4 _ hH kRp (fun s5 hq hs5 hb5 hr5=>?_) fun s5 hq hb5=>?_
            ·rw[hq]at hR;exact hk _ hR.symm hb5
            ·rw[hq]at hR
             have:R.2=s5:=by rw[←hR]
             rw[←this]at hb5⊢;exact hp hb5
           clear hR;conv=>whnf
           refine⟨⟨rfl,trivial⟩,?_⟩;conv=>whnf
           refine⟨?_,?_⟩
           all_goals conv=>whnf
           all_goals
            refine⟨⟨rfl,trivial⟩,?_⟩;conv=>whnf
           case' refine_2=>
            refine⟨?_,?_⟩
            all_goals conv=>whnf
           all_goals try refine⟨?_,?_⟩
           all_goals try conv=>whnf
           all_goals
            refine fin rfl (fun s5 hR hb5=>?_) fun hb5=>?_
            ·conv=>whnf
             subst hR;exact aT.ret hb5 (eU 11 s.tok.at_ [] 0 [] [.mk k p nm v ns l ts] [.mk k' nm' ns' l'] _ _ _) rfl
            ·conv=>whnf
             exact aT.pan hb5 rfl
          ·conv=>whnf
           rw[hq]at hR;dsimp only at hR;rw[bL hb4]at hR;subst hR;exact aT.kI rfl hb4 rfl
        ·conv=>whnf
         rw[hq]at hR;exact aT.kI (by rw[←hR,(dJ n).as_ _ _ _ hb2]) hb2 rfl
       ·conv=>whnf
        rw[hq,if_pos hb1]at hR;subst hR;exact aT.kI rfl hb1 rfl
      ·rw[if_pos h7,hq]at hR
       conv=>whnf
       have hrel:=vR d s.tok.at_ n [] s1 hs1 (by omega);have hfs:=Bw F' F.DZ F.h28 (TV F n ih d hd s.tok) kEq n [] s1 (Nat.le_refl _) hs1 hb1 (by omega) rfl;rw[show([]:List (Bytes×EA)).map (·.1)=[]from rfl,show([]:List (Bytes×EA)).map (·.2)=[]from rfl,hR]at hrel;generalize dK kEq (eSt d) n [] [] s1=G at hrel hfs;obtain⟨x',s'⟩:=G;dsimp only at hrel hfs;refine hfs.to rfl (fun z hz=>?_) (kT (zi d s.tok) _ _) (mW bH) (kT (zi d s.tok) _ _) [] (by rfl) ?_
       ·simp only[List.mem_cons,List.not_mem_nil,or_false]at hz
        rcases hz with rfl|rfl|rfl
        ·exact .ptr _ _ (show 1<10 by decide)
        ·exact .str _
        ·exact .fn _ _ _ fK (TV F n ih d hd s.tok).FY
       obtain⟨e1,hrel⟩:=hrel;rw[e1];cases hb':s'.bad
       ·rw[hrel hb']
        conv=>whnf
        exact aT.ret hb' (eU 5 s.tok.at_ [] 0 (x'.map (·.1)) (x'.map (·.2)) [] _ _ _) rfl
       ·conv=>whnf
        exact aT.pan hb' rfl
     ·rw[if_pos h6,hq]at hR
      conv=>whnf
      subst hR;exact aT.ret hb1 (eU 3 s.tok.at_ [] 0 [] [] [] _ _ _) rfl
    ·rw[if_pos h5,hq]at hR
     conv=>whnf
     subst hR;exact aT.ret hb1 (eU 3 s.tok.at_ [] 1 [] [] [] _ _ _) rfl
 ·have h3:s.tok.kind=3:=by simpa using hk3
  rw[if_neg (by rw[h3];decide),if_pos h3]at hR;have hn:=hs.num _ (List.mem_of_getElem? (uP hs)) h3;conv=>whnf
  rw[addN hs.i];refine(F.num.num s.tok.text hn).to ?_;conv=>whnf
  subst hR;exact aT.ret hb (eU 1 s.tok.at_ [] (tZ s.tok.text) [] [] [] _ _ _) rfl
end Go.Ag
/- Package parse: call, expr; all of expressions. -/
namespace Go.Ag
open Go
variable {T : Tab} {L : Lnk}
def GJ :aU:=.cells [.int .i64 0,.int .i64 0,.str [],.int .i64 0,.lst [] .nil,.lst [] .nil,.lst [] .nil] 313
def IJ (k p:Int) (nm:Bytes) (v:Int) (ns:List Bytes) (l:List EA) (ts:List TA) (t1 t2 t3:Tok):aU:=
 .cells [.int .i64 k,.int .i64 p,.str nm,.int .i64 v,.lst (aO ns) t1,.lst (EA.avs l) t2,.lst (TA.avs ts) t3] 313
theorem MK (F:yA T) (n:Nat) (ih:∀m,m<n→PEx T m) (WQ:∀(d:Nat) (s:RS),s.ok→s.bad=false→d≤64→6*s.rem+7≤n→PC T.L 316 [.int .i64 d] s (fD n d s).1.av (fD n d s).2)
  (d:Nat) (s:RS) (hs:s.ok) (hb:s.bad=false) (hd:d≤64) (hf:6*s.rem+7≤n):PC T.L 296 [.int .i64 d] s (Eu n d s).1.av (Eu n d s).2:=by
 refine PC.of 0 (iN _ _) (aG F.WY (by simp[Uo]) ?_);obtain⟨R,hR⟩:∃R,Eu n d s=R:=⟨_,rfl⟩;rw[hR];unfold Eu at hR;have F':=F.todZ;have hq:=WQ d s hs hb hd hf;have hle:=(fT n).basic d s hs;have hre:=hle.rem;obtain⟨q,hqe⟩:∃q,fD n d s=q:=⟨_,rfl⟩;rw[hqe]at hq hle hR hre;obtain⟨⟨a1,a2,a3,a4,a5,a6,a7⟩,s1⟩:=q;dsimp only at hq hle hR hre;have hs1:=hs.of hle;conv=>whnf
 refine hq.to (dD (.int _ _)) (iN _ _) _ rfl (fun hb1=>?_) fun hb1=>?_
 ·conv=>whnf
  intro I hI hG
  have key:∀(mm:Nat) (s':RS) (k p:Int) (nm:Bytes) (v:Int) (ns:List Bytes) (l:List EA) (ts:List TA) (e:Env),mm≤n→s'.ok→s'.bad=false→6*s'.rem+7≤mm→R=mg mm d (.mk k p nm v ns l ts) s'→
    I (gB e [(0,.ptr 1 0),(1,.int .i64 d),(4,.ptr 2 0),(5,.ptr 3 0)]) (aW s' ++[GJ,IJ k p nm v ns l ts .none .none .none]):=by
   intro mm
   induction mm with
   |zero=>intro s' k p nm v ns l ts e _ _ _ h;omega
   |succ mm ihm=>
    intro s' k p nm v ns l ts e hm hs' hb' hf' hv;rw[mg]at hv
    have next:∀(s2:RS) (k p:Int) (nm:Bytes) (v:Int) (ns:List Bytes) (l:List EA) (ts:List TA) (t1 t2 t3:Tok) (e2:Env) (H2:Heap),s2.ok→s2.bad=false→6*s2.rem+7≤mm→R=mg mm d (.mk k p nm v ns l ts) s2→
      H2.take 4=aW s2 ++[GJ,IJ k p nm v ns l ts t1 t2 t3]→fC e2 [(0,.ptr 1 0),(1,.int .i64 d),(4,.ptr 2 0),(5,.ptr 3 0)]→I e2 H2:=fun s2 k p nm v ns l ts t1 t2 t3 e2 H2 c1 cb c2 c3 c4 c5=>
     hG.Ka [(0,.ptr 1 0),(1,.int .i64 d),(4,.ptr 2 0),(5,.ptr 3 0)] (aW s2 ++[GJ,IJ k p nm v ns l ts .none .none .none]) (aW s2 ++[GJ,IJ k p nm v ns l ts t1 t2 t3]) (H2.drop 4) (by conv=>lhs;rw[←List.take_append_drop 4 H2,c4]) (Nat.le_refl 4)
      ⟨bJ.refl _,bJ.refl _,bJ.refl _,⟨rfl,Weak.refl _,Weak.refl _,Weak.refl _,Weak.refl _,Weak.tok _ _,Weak.tok _ _,Weak.tok _ _,trivial⟩,trivial⟩
      (uT c5 ⟨.ptr _ _ (by decide:1<4),.int _ _,.ptr _ _ (by decide:2<4),.ptr _ _ (by decide:3<4),trivial⟩)
      ⟨bG _ _ _,aI (by decide:2≤4) (Dt s2),dH ⟨.int _ _,.int _ _,.str _,.int _ _,.lst _ _ trivial fK,.lst _ _ trivial fK,.lst _ _ trivial fK,trivial⟩,
       dH ⟨.int _ _,.int _ _,.str _,.int _ _,dQ _ _ _ trivial,.lst _ _ trivial (wD _ _),.lst _ _ trivial (aY _ _),trivial⟩,trivial⟩
      (ihm s2 k p nm v ns l ts _ (by omega) c1 cb c2 c3)
    apply hI;conv=>whnf
    refine F'.here hs' hb' _ rfl ?_;conv=>whnf
    refine F'.qQ hs' hb' _ rfl kLp (fun h3=>?_) fun s2 h3 hq hs2 hb2 hr=>?_
    ·rw[if_neg (by simp[h3])]at hv
     conv=>whnf
     refine F'.qQ hs' hb' _ rfl DK (fun h4=>?_) fun s2 h4 hq hs2 hb2 hr=>?_
     ·rw[if_neg (by simp[h4])]at hv
      subst hv;conv=>whnf
      exact aT.ret hb' (eU _ _ _ _ _ _ _ _ _ _) rfl
     ·rw[if_pos h4,hq]at hv
      conv=>whnf
      refine F'.FU hs2 hb2 _ rfl (fun k2 a2 x2 s3 hq hs3 hb3 hr3=>?_) fun t s3 hq hb3=>?_
      ·rw[hq]at hv
       conv=>whnf
       exact next s3 _ _ _ _ [] [.mk k p nm v ns l ts] [] _ _ _ _ _ hs3 hb3 (by omega) hv rfl ⟨rfl,rfl,rfl,rfl,trivial⟩
      ·rw[hq]at hv
       conv=>whnf
       exact aT.kI (by rw[hv,(dJ _).post _ _ _ hb3]) hb3 rfl
    ·rw[if_pos h3,hq]at hv
     conv=>whnf
     rw[addN (by omega)];refine(ih mm (by omega)).xG hs2 hb2 _ rfl (d+1) (by omega) (by omega) (fun c1 c2 c3 c4 c5 c6 c7 s3 hq hs3 hb3 hr3=>?_) fun t s3 hq hb3=>?_
     ·rw[hq]at hv
      conv=>whnf
      refine F'.oO hs3 hb3 _ rfl kRp (fun s5 hq hs5 hb5 hr5=>?_) fun s5 hq hb5=>?_
      ·rw[hq]at hv
       conv=>whnf
       exact next s5 _ _ [] 0 [] [.mk k p nm v ns l ts,.mk c1 c2 c3 c4 c5 c6 c7] [] _ _ _ _ _ hs5 hb5 (by omega) hv rfl ⟨rfl,rfl,rfl,rfl,trivial⟩
      ·rw[hq]at hv
       conv=>whnf
       exact aT.kI (by rw[hv,(dJ _).post _ _ _ hb5]) hb5 rfl
     ·rw[hq]at hv
      conv=>whnf
      dsimp only at hv;rw[bL hb3]at hv;exact aT.kI (by rw[hv,(dJ _).post _ _ _ hb3]) hb3 rfl
  exact inv_of [(0,.ptr 1 0),(1,.int .i64 d),(4,.ptr 2 0),(5,.ptr 3 0)] ⟨rfl,rfl,rfl,rfl,trivial⟩ (key n s1 _ _ _ _ _ _ _ _ (Nat.le_refl _) hs1 hb1 (by omega) hR.symm)
 ·conv=>whnf
  exact aT.kI (by rw[←hR,(dJ _).post _ _ _ hb1]) hb1 rfl
theorem MI (F:yA T) (n:Nat) (ih:∀m,m≤n→PEx T m) (d:Nat) (s:RS) (hs:s.ok) (hb:s.bad=false) (hd:d≤65) (hf:6*s.rem+8≤n+1):PC T.L 261 [.int .i64 d] s (bZ (n+1) d s).1.av (bZ (n+1) d s).2:=by
 refine PC.of 0 (iN _ _) (aG F.Xk (by simp[Uy]) ?_);obtain⟨R,hR⟩:∃R,bZ (n+1) d s=R:=⟨_,rfl⟩;rw[hR];rw[bZ]at hR;have F':=F.todZ;conv=>whnf
 refine F'.deep hs hb d _ rfl (fun hd1=>?_) fun hd1=>?_
 ·rw[show jX d s=s from if_neg (by omega),if_neg (by simp[hb])]at hR
  conv=>whnf
  refine F'.here hs hb _ rfl ?_;obtain⟨m,rfl⟩:∃m,n=m+1:=⟨n-1,by omega⟩;have ihm:=ih m (by omega);conv=>whnf
  refine F'.qQ hs hb _ rfl Ir (fun h0=>?_) fun s1 h0 hq hs1 hb1 hr1=>?_
  ·rw[if_neg (by simp[h0])]at hR
   conv=>whnf
   refine F'.qQ hs hb _ rfl uy (fun h1=>?_) fun s1 h1 hq hs1 hb1 hr1=>?_
   ·rw[if_neg (by simp[h1])]at hR
    conv=>whnf
    refine F'.qQ hs hb _ rfl kIf (fun h2=>?_) fun s1 h2 hq hs1 hb1 hr1=>?_
    ·rw[if_neg (by simp[h2])]at hR
     conv=>whnf
     have hc:=(ih (m+1) (Nat.le_refl _)).call d s hs hb (by omega) (by omega);rw[show Eu (m+1) d s=R from hR]at hc;obtain⟨⟨a1,a2,a3,a4,a5,a6,a7⟩,s1⟩:=R;dsimp only at hc;refine hc.to (dD (.int _ _)) (iN _ _) _ rfl (fun hb1=>?_) fun hb1=>?_
     ·conv=>whnf
      exact aT.ret hb1 (Weak.refl _) rfl
     ·conv=>whnf
      exact aT.pan hb1 rfl
    ·rw[if_pos h2,hq,ifR]at hR
     conv=>whnf
     rw[addN (by omega)];refine ihm.xG hs1 hb1 _ rfl (d+1) (by omega) (by omega) (fun a1 a2 a3 a4 a5 a6 a7 s2 hq hs2 hb2 hr2=>?_) fun t s2 hq hb2=>?_
     ·rw[hq]at hR
      conv=>whnf
      refine F'.oO hs2 hb2 _ rfl F5 (fun s3 hq hs3 hb3 hr3=>?_) fun s3 hq hb3=>?_
      ·rw[hq]at hR
       conv=>whnf
       rw[addN (by omega)];refine ihm.xG hs3 hb3 _ rfl (d+1) (by omega) (by omega) (fun b1 b2 b3 b4 b5 b6 b7 s4 hq hs4 hb4 hr4=>?_) fun t s4 hq hb4=>?_
       ·obtain⟨m',rfl⟩:∃m',m=m'+1:=⟨m-1,by omega⟩
        rw[hq,uH]at hR;conv=>whnf
        refine F'.oO hs4 hb4 _ rfl kElse (fun s5 hq hs5 hb5 hr5=>?_) fun s5 hq hb5=>?_
        ·rw[hq]at hR
         conv=>whnf
         rw[addN (by omega)];refine(ih m' (by omega)).xG hs5 hb5 _ rfl (d+1) (by omega) (by omega) (fun c1 c2 c3 c4 c5 c6 c7 s6 hq hs6 hb6 hr6=>?_) fun t s6 hq hb6=>?_
         ·rw[hq]at hR
          subst hR;conv=>whnf
          refine⟨⟨rfl,rfl,trivial⟩,?_⟩;conv=>whnf
          exact aT.ret hb6 (eU 10 s.tok.at_ [] 0 [] [.mk a1 a2 a3 a4 a5 a6 a7,.mk b1 b2 b3 b4 b5 b6 b7,.mk c1 c2 c3 c4 c5 c6 c7] [] _ _ _) rfl
         ·rw[hq]at hR
          subst hR;conv=>whnf
          exact aT.kI rfl hb6 rfl
        ·rw[hq]at hR
         conv=>whnf
         exact aT.kI (by rw[←hR];exact(dJ _).expr _ _ hb5) hb5 rfl
       ·rw[hq]at hR
        conv=>whnf
        exact aT.kI (by rw[←hR];exact(dJ _).el _ _ _ _ hb4) hb4 rfl
      ·rw[hq]at hR
       conv=>whnf
       have h:=(dJ m).expr (d+1) _ hb3;exact aT.kI (by rw[←hR];exact((dJ _).el _ _ _ _ (by rw[h];exact hb3)).trans h) hb3 rfl
     ·rw[hq]at hR
      dsimp only at hR;rw[bL hb2]at hR;conv=>whnf
      have h:=(dJ m).expr (d+1) _ hb2;exact aT.kI (by rw[←hR];exact((dJ _).el _ _ _ _ (by rw[h];exact hb2)).trans h) hb2 rfl
   ·rw[if_pos h1,hq]at hR
    conv=>whnf
    refine F'.FU hs1 hb1 _ rfl (fun k2 p2 x2 s2 hq hs2 hb2 hr2=>?_) fun t s2 hq hb2=>?_
    ·rw[hq,BM]at hR
     dsimp only at hR;conv=>whnf
     refine F'.oO hs2 hb2 _ rfl kEq (fun s3 hq hs3 hb3 hr3=>?_) fun s3 hq hb3=>?_
     ·rw[hq]at hR
      conv=>whnf
      rw[addN (by omega)];refine ihm.xG hs3 hb3 _ rfl (d+1) (by omega) (by omega) (fun a1 a2 a3 a4 a5 a6 a7 s4 hq hs4 hb4 hr4=>?_) fun t s4 hq hb4=>?_
      ·rw[hq]at hR
       conv=>whnf
       refine F'.oO hs4 hb4 _ rfl kIn (fun s5 hq hs5 hb5 hr5=>?_) fun s5 hq hb5=>?_
       ·rw[hq]at hR
        conv=>whnf
        rw[addN (by omega)];refine ihm.xG hs5 hb5 _ rfl (d+1) (by omega) (by omega) (fun c1 c2 c3 c4 c5 c6 c7 s6 hq hs6 hb6 hr6=>?_) fun t s6 hq hb6=>?_
        ·rw[hq]at hR
         subst hR;conv=>whnf
         refine⟨⟨rfl,trivial⟩,?_⟩;conv=>whnf
         exact aT.ret hb6 (eU 9 s.tok.at_ x2 0 [] [.mk a1 a2 a3 a4 a5 a6 a7,.mk c1 c2 c3 c4 c5 c6 c7] [] _ _ _) rfl
        ·rw[hq]at hR
         subst hR;conv=>whnf
         exact aT.kI rfl hb6 rfl
       ·rw[hq]at hR
        conv=>whnf
        exact aT.kI (by rw[←hR];exact(dJ _).expr _ _ hb5) hb5 rfl
      ·rw[hq]at hR
       dsimp only at hR;rw[bL hb4]at hR;conv=>whnf
       exact aT.kI (by rw[←hR];exact(dJ _).expr _ _ hb4) hb4 rfl
     ·rw[hq]at hR
      conv=>whnf
      exact aT.kI (by rw[←hR,(dJ _).expr _ _ hb3,bL hb3];exact(dJ _).expr _ _ hb3) hb3 rfl
    ·rw[hq]at hR
     conv=>whnf
     exact aT.kI (by rw[←hR];exact(dJ _).lt _ _ _ hb2) hb2 rfl
  ·rw[if_pos h0,hq]at hR
   conv=>whnf
   refine F'.oO hs1 hb1 _ rfl kLp (fun s2 hq hs2 hb2 hr2=>?_) fun s2 hq hb2=>?_
   ·rw[hq]at hR
    conv=>whnf
    refine F'.FU hs2 hb2 _ rfl (fun k2 p2 x2 s3 hq hs3 hb3 hr3=>?_) fun t s3 hq hb3=>?_
    ·rw[hq,BO]at hR
     dsimp only at hR;conv=>whnf
     refine F'.oO hs3 hb3 _ rfl aS (fun s4 hq hs4 hb4 hr4=>?_) fun s4 hq hb4=>?_
     ·rw[hq,if_neg (by simp[hb4])]at hR
      conv=>whnf
      rw[addN (by omega)];refine F.toGD.VN hs4 hb4 _ rfl m (d+1) (by omega) (by omega) (fun a1 a2 a3 a4 s5 hq hs5 hb5 hr5=>?_) fun t s5 hq hb5=>?_
      ·rw[hq]at hR
       conv=>whnf
       refine F'.oO hs5 hb5 _ rfl kRp (fun s6 hq hs6 hb6 hr6=>?_) fun s6 hq hb6=>?_
       ·rw[hq,if_neg (by simp[hb6])]at hR
        conv=>whnf
        rw[addN (by omega)];refine ihm.xG hs6 hb6 _ rfl (d+1) (by omega) (by omega) (fun c1 c2 c3 c4 c5 c6 c7 s7 hq hs7 hb7 hr7=>?_) fun t s7 hq hb7=>?_
        ·rw[hq]at hR
         subst hR;conv=>whnf
         exact aT.ret hb7 (eU 8 s.tok.at_ x2 0 [] [.mk c1 c2 c3 c4 c5 c6 c7] [.mk a1 a2 a3 a4] _ _ _) rfl
        ·rw[hq]at hR
         subst hR;conv=>whnf
         exact aT.kI rfl hb7 rfl
       ·rw[hq,if_pos hb6]at hR
        subst hR;conv=>whnf
        exact aT.kI rfl hb6 rfl
      ·rw[hq]at hR
       dsimp only at hR;rw[bL hb5,if_pos hb5]at hR;subst hR;conv=>whnf
       exact aT.kI rfl hb5 rfl
     ·rw[hq,if_pos hb4]at hR
      subst hR;conv=>whnf
      exact aT.kI rfl hb4 rfl
    ·rw[hq]at hR
     conv=>whnf
     exact aT.kI (by rw[←hR];exact(dJ _).fn _ _ _ hb3) hb3 rfl
   ·rw[hq,Qq hb2]at hR
    conv=>whnf
    exact aT.kI (by rw[←hR];exact(dJ _).fn _ _ _ hb2) hb2 rfl
 ·rw[show jX d s=cZ s 3 from if_pos hd1,if_pos (fU s 3)]at hR
  subst hR;conv=>whnf
  exact aT.pan (fU _ _) rfl
theorem Ws (F:yA T):∀n,PEx T n:=fun n=>Nat.strongRecOn n fun n ih=>by
 cases n with
 |zero=>exact⟨fun d s hs hb hd hf=>by omega,fun d s hs hb hd hf=>by omega,fun d s hs hb hd hf=>by omega⟩
 |succ n=>
  have ih':∀m,m≤n→PEx T m:=fun m hm=>ih m (by omega)
  have WQ:=fun d s hs hb hd hf=>JV F n ih' d s hs hb hd hf
  exact⟨fun d s hs hb hd hf=>MI F n ih' d s hs hb hd hf,fun d s hs hb hd hf=>MK F (n+1) ih WQ d s hs hb hd hf,WQ⟩
end Go.Ag
/- Package parse: decl, skip, Parse. -/
namespace Go.Ag
open Go
variable {T : Tab} {L : Lnk}
structure zH (T:Tab):Prop extends yA T,I9 T where
 XJ:T.has 189 U3
 Xx:T.has 227 UM
 Xw:T.has 228 UL
 Xv:T.has 229 UK
theorem MJ (F:zH T) (n:Nat) (s:RS) (hs:s.ok) (hb:s.bad=false) (hf:6*s.rem+8≤n):PC T.L 228 [] s (fH n s).1.av (fH n s).2:=by
 refine PC.of 0 (vE _ _) (aG F.Xw (by simp[UL]) ?_);obtain⟨R,hR⟩:∃R,fH n s=R:=⟨_,rfl⟩;rw[hR];unfold fH at hR;have F':=F.todZ;have hE:=Ws F.toyA n;conv=>whnf
 refine F'.qQ hs hb _ rfl EP (fun h0=>?_) fun s1 h0 hq hs1 hb1 hr1=>?_
 ·rw[if_neg (by simp[h0])]at hR
  conv=>whnf
  refine F'.qQ hs hb _ rfl nI (fun h1=>?_) fun s1 h1 hq hs1 hb1 hr1=>?_
  ·rw[if_neg (by simp[h1])]at hR
   conv=>whnf
   refine F'.qQ hs hb _ rfl uy (fun h2=>?_) fun s1 h2 hq hs1 hb1 hr1=>?_
   ·rw[if_neg (by simp[h2])]at hR
    subst hR;conv=>whnf
    refine F'.fail hs hb 2 _ rfl ?_;conv=>whnf
    exact aT.pan (fU _ _) rfl
   ·rw[if_pos h2,hq]at hR
    conv=>whnf
    refine F'.FU hs1 hb1 _ rfl (fun k2 p2 x2 s2 hq hs2 hb2 hr2=>?_) fun t s2 hq hb2=>?_
    ·rw[hq,BA]at hR
     dsimp only at hR;conv=>whnf
     refine⟨⟨rfl,trivial⟩,?_⟩;conv=>whnf
     refine F'.qQ hs2 hb2 _ rfl aS (fun h3=>?_) fun s3 h3 hq hs3 hb3 hr3=>?_
     case' refine_1=>
      rw[if_neg (by simp[h3])]at hR;obtain⟨ts,hts⟩:∃ts:List TA,ts=[]:=⟨_,rfl⟩;rw[←hts]at hR;have hs4:=hs2;have hb4:=hb2;have hr4:s2.rem≤s2.rem:=Nat.le_refl _;obtain⟨s4,Zi⟩:∃s4,s4=s2:=⟨_,rfl⟩;rw[←Zi]at hR hs4 hb4;rw[←Zi];replace hr4:s4.rem≤s2.rem:=by rw[Zi];exact Nat.le_refl _
      conv=>whnf
     case' refine_2=>
      rw[if_pos h3,hq]at hR;conv=>whnf
      refine F.toGD.VN hs3 hb3 _ rfl n 1 (by omega) (by omega) (fun a1 a2 a3 a4 s4 hq hs4 hb4 hr4=>?_) (fun t s4 hq hb4=>by
       rw[hq]at hR
       have e1:R.2=s4:=by
        rw[←hR,uI];dsimp only;rw[bL hb4,(dJ n).expr _ _ hb4,bL hb4]
       conv=>whnf
       exact aT.kI e1 hb4 rfl)
      rw[hq]at hR;obtain⟨ts,hts⟩:∃ts:List TA,ts=[.mk a1 a2 a3 a4]:=⟨_,rfl⟩;rw[←hts]at hR;conv=>whnf
     all_goals
      rw[uI]at hR;refine F'.oO hs4 hb4 _ rfl kEq (fun s5 hq hs5 hb5 hr5=>?_) fun s5 hq hb5=>?_
      ·rw[hq]at hR
       conv=>whnf
       refine hE.xG hs5 hb5 _ rfl 1 (by omega) (by omega) (fun c1 c2 c3 c4 c5 c6 c7 s6 hq hs6 hb6 hr6=>?_) fun t s6 hq hb6=>?_
       ·rw[hq]at hR
        conv=>whnf
        refine F'.oO hs6 hb6 _ rfl jd (fun s7 hq hs7 hb7 hr7=>?_) fun s7 hq hb7=>?_
        ·rw[hq]at hR
         subst hR;subst hts;conv=>whnf
         first
         |exact aT.ret hb7 (kR 3 p2 x2 [] [.mk c1 c2 c3 c4 c5 c6 c7] _ _) rfl
         |exact aT.ret hb7 (kR 3 p2 x2 [.mk a1 a2 a3 a4] [.mk c1 c2 c3 c4 c5 c6 c7] _ _) rfl
        ·rw[hq]at hR
         subst hR;conv=>whnf
         exact aT.kI rfl hb7 rfl
       ·rw[hq]at hR
        dsimp only at hR;rw[bL hb6]at hR;subst hR;conv=>whnf
        exact aT.kI rfl hb6 rfl
      ·rw[hq]at hR
       have h:=(dJ n).expr 1 _ hb5;rw[h,bL hb5]at hR;subst hR;conv=>whnf
       exact aT.kI rfl hb5 rfl
    ·rw[hq]at hR
     have e1:R.2=s2:=by
      have h:=(dJ n).expr 1 _ hb2;rw[←hR,BA];dsimp only;rw[kU hb2,if_neg (by simp),uI];dsimp only;rw[bL hb2,h,bL hb2]
     conv=>whnf
     exact aT.kI e1 hb2 rfl
  ·rw[if_pos h1,hq]at hR
   conv=>whnf
   refine F'.FU hs1 hb1 _ rfl (fun k2 p2 x2 s2 hq hs2 hb2 hr2=>?_) fun t s2 hq hb2=>?_
   ·rw[hq,declT]at hR
    dsimp only at hR;conv=>whnf
    refine⟨⟨rfl,trivial⟩,?_⟩;conv=>whnf
    refine F'.oO hs2 hb2 _ rfl kEq (fun s3 hq hs3 hb3 hr3=>?_) fun s3 hq hb3=>?_
    ·rw[hq]at hR
     conv=>whnf
     refine F.toGD.VN hs3 hb3 _ rfl n 1 (by omega) (by omega) (fun a1 a2 a3 a4 s4 hq hs4 hb4 hr4=>?_) fun t s4 hq hb4=>?_
     ·rw[hq]at hR
      conv=>whnf
      refine F'.oO hs4 hb4 _ rfl jd (fun s5 hq hs5 hb5 hr5=>?_) fun s5 hq hb5=>?_
      ·rw[hq]at hR
       subst hR;conv=>whnf
       exact aT.ret hb5 (kR 2 p2 x2 [.mk a1 a2 a3 a4] [] _ _) rfl
      ·rw[hq]at hR
       subst hR;conv=>whnf
       exact aT.kI rfl hb5 rfl
     ·rw[hq]at hR
      dsimp only at hR;rw[bL hb4]at hR;subst hR;conv=>whnf
      exact aT.kI rfl hb4 rfl
    ·rw[hq]at hR
     have h:=(sV n).1 1 _ hb3;rw[h,bL hb3]at hR;subst hR;conv=>whnf
     exact aT.kI rfl hb3 rfl
   ·rw[hq]at hR
    have e1:R.2=s2:=by
     have h:=(sV n).1 1 _ hb2;rw[←hR,declT];dsimp only;rw[bL hb2,h,bL hb2]
    conv=>whnf
    exact aT.kI e1 hb2 rfl
 ·rw[if_pos h0,hq]at hR
  conv=>whnf
  refine F'.FU hs1 hb1 _ rfl (fun k2 p2 x2 s2 hq hs2 hb2 hr2=>?_) fun t s2 hq hb2=>?_
  ·rw[hq,K9]at hR
   dsimp only at hR;conv=>whnf
   refine⟨⟨rfl,trivial⟩,?_⟩;conv=>whnf
   refine F'.oO hs2 hb2 _ rfl jd (fun s3 hq hs3 hb3 hr3=>?_) fun s3 hq hb3=>?_
   ·rw[hq]at hR
    subst hR;conv=>whnf
    exact aT.ret hb3 (kR 1 p2 x2 [] [] _ _) rfl
   ·rw[hq]at hR
    subst hR;conv=>whnf
    exact aT.kI rfl hb3 rfl
  ·rw[hq,K9]at hR
   dsimp only at hR;rw[bL hb2]at hR;subst hR;conv=>whnf
   exact aT.kI rfl hb2 rfl
theorem MC (F:zH T) (g:RS) (hg:g.ok) (hb:g.bad=false):PC T.L 229 [] g (.tup []) (jl (mR g.rem g)):=by
 refine PC.of 0 bH (aG F.Xv (by simp[UK]) ?_);have F':=F.todZ;obtain⟨R,hR⟩:∃R,jl (mR g.rem g)=R:=⟨_,rfl⟩;rw[hR];conv=>whnf
 intro I hI hG
 have key:∀(m:Nat) (s:RS) (e:Env),s.ok→s.bad=false→s.rem≤m→jl (mR m s)=R→I (gB e [(0,.ptr 1 0)]) (aW s):=by
  intro m
  induction m with
  |zero=>
   intro s e h1 _ h2;have:=h1.lt;unfold RS.rem at h2;omega
  |succ m ih=>
   intro s e hs hb hr hv;rw[mR]at hv;apply hI;conv=>whnf
   refine F'.here hs hb [] (by simp) ?_;conv=>whnf
   cases hk:(s.tok.kind !=6)
   ·have OH:isR s jd=false:=by
     cases h:isR s jd
     ·rfl
     ·exact absurd (wG h).1 (by simpa using hk)
    rw[if_neg (by simp[hk]),jl,if_neg (by simp[OH])]at hv;subst hv;conv=>whnf
    exact aT.ret hb (Weak.refl _) rfl
   ·conv=>whnf
    refine F'.qQ hs hb [] (by rfl) jd (fun h=>?_) fun s2 h hq hs2 hb2 hr2=>?_
    ·rw[if_pos (by simp[hk,h])]at hv
     conv=>whnf
     rw[addN hs.i];have hle2:=mV hs (by simpa using hk);have hlt:=hle2.lt;simp only at hlt;exact inv_of [(0,.ptr 1 0)] ⟨rfl,trivial⟩ (ih {s with i:=s.i+1} _ (hs.of hle2) hb (by unfold RS.rem at*;simp only;omega) hv)
    ·rw[if_neg (by simp[h]),jl,if_pos h]at hv
     have:R=s2:=by rw[←hv,←hq,jL h]
     rw[this];conv=>whnf
     exact aT.ret hb2 (Weak.refl _) rfl
 have:aW g ++List.replicate 0 .dead=aW g:=by simp
 exact inv_of [(0,.ptr 1 0)] ⟨rfl,trivial⟩ (key _ _ _ hg hb (Nat.le_refl _) hR)
end Go.Ag
/- Package parse: Parse: the declarations are those of the document's reader. -/
namespace Go.Ag
open Go
variable {T : Tab} {L : Lnk}
def YM :aU:=.cells [.int .i64 0,.int .i64 0,.str [],.lst [] .nil,.lst [] .nil] 242
def dcell (d:dV):aU:=.cells [.int .i64 d.kind,.int .i64 d.at_,.str d.name,.lst (TA.avs d.ts) .none,.lst (EA.avs d.es) .none] 242
theorem NM (F:zH T) (src:Bytes) (hs:src.length≤2^31):Pure T.L 189 [.str src] (.tup [.lst ((gH src).1.map dV.av) .none,.lst ((gH src).2.diags.map bO.av) .none]):=by
 refine Pure.Ms 3 (dD (.str _)) (.tup _ (gq.at ⟨.lst _ _ trivial (wE _ _),gM _ _ _ trivial,trivial⟩)) (aG F.XJ (by simp[U3]) ?_);obtain⟨hok,hlen,hdl⟩:=mQ src (by omega);obtain⟨R,hR⟩:∃R,gH src=R:=⟨_,rfl⟩;rw[hR];unfold gH at hR;have hn:6*(bE src).rem+8≤oq src:=Nat.le_refl _;generalize oq src=n at hR hn;conv=>whnf
 refine(VE F.lex src hs (i:=0) (j:=1) rfl rfl (by decide)).to1 ?_;conv=>whnf
 intro I hI hG
 have key:∀(k:Nat) (s:RS) (l:List dV) (XS:List au) (e:Env),s.okN k→s.bad=false→s.rem≤k→6*s.rem+8≤n→l.length+s.rem≤2^34→R=jF n k l s→XS=l.map dV.av→
   I (gB e [(6,.ptr 4 0),(7,.lst XS (bK XS.length 2))]) [.gone,bC s.diags.length 333,bC XS.length 242,qm 1 s,.cells [.ptr 3 0] 225]:=by
  intro k
  induction k with
  |zero=>
   intro s l XS e hk hb hr;have:=hk.lt;unfold RS.rem at hr;omega
  |succ k ih=>
   intro s l XS e hsN hb hr hfu hll hv hX;have hs1:=hsN.ok;rw[jF]at hv
   have next:∀(s2:RS) (l2:List dV) (YS:List au) (e2:Env) (H2:Heap),s2.okN k→s2.bad=false→s2.rem≤k→6*s2.rem+8≤n→l2.length+s2.rem≤2^34→R=jF n k l2 s2→YS=l2.map dV.av→
     H2.take 5=[.gone,bC s2.diags.length 333,bC YS.length 242,qm 1 s2,.cells [.ptr 3 0] 225]→fC e2 [(6,.ptr 4 0),(7,.lst YS (bK YS.length 2))]→I e2 H2:=fun s2 l2 YS e2 H2 c1 c2 c3 c4 c5 c6 c7 c8 c9=>
    hG.keep [(6,.ptr 4 0),(7,.lst YS (bK YS.length 2))] [.gone,bC s2.diags.length 333,bC YS.length 242,qm 1 s2,.cells [.ptr 3 0] 225] (Nat.le_refl 5) c8 c9
     ⟨.ptr _ _ (by decide:4<5),.lst _ _ (dO (by decide:2<5)) (by rw[c7];exact wE _ _),trivial⟩
     ⟨trivial,bG _ _ _,bG _ _ _,dH ⟨jO _ _ _ trivial,.int _ _,gM _ _ _ (dO (by decide:1<5)),trivial⟩,dH ⟨.ptr _ _ (by decide:3<5),trivial⟩,trivial⟩ (ih s2 l2 YS _ c1 c2 c3 c4 c5 c6 c7)
   apply hI;conv=>whnf
   refine((Ak F.todZ s hs1 hb).at2 (fun x hx=>by cases hx) (nQ 0 _) (d:=1) (p:=3) rfl rfl (by decide)).toR ?_;rw[hb];conv=>whnf
   cases hk6:(s.tok.kind !=6)
   ·rw[if_neg (by simp[hk6])]at hv
    subst hv hX;conv=>whnf
    exact aH (Weak.tup ⟨Weak.tok _ _,Weak.tok _ _,trivial⟩)
   ·rw[if_pos hk6]at hv
    conv=>whnf
    have hd:=MJ F n s hs1 hb hfu;have hle:=Ch (n:=n) hs1;have hrr:=vY (n:=n) hsN hb (by simpa using hk6);obtain⟨q,hq⟩:∃q,fH n s=q:=⟨_,rfl⟩;rw[hq]at hd hle hrr hv;have hs2:=hs1.of hle;obtain⟨⟨dk,dp,dn,dts,des⟩,s'⟩:=q;dsimp only at hd hle hrr hv hs2;refine F.cau.to (b:=s'.bad) (H1:=[.gone,bC s'.diags.length 333,bC XS.length 242,qm 1 s',.cells [.ptr 3 0] 225,if s'.bad then YM else dcell ⟨dk,dp,dn,dts,des⟩]) ?_ ?_
    ·refine aG F.Xx (by simp[UM]) ?_
     conv=>whnf
     refine(hd.at2 (fun x hx=>by cases hx) (vE 0 _) (d:=1) (p:=3) rfl rfl (by decide)).toR ?_;cases s'.bad
     ·conv=>whnf
      exact⟨rfl,rfl⟩
     ·conv=>whnf
      exact⟨rfl,rfl⟩
    ·conv=>whnf
     cases hb2:s'.bad
     ·rw[if_neg (by simp[hb2])]at hv
      obtain⟨k1,k2⟩:=hrr.1 hb2;conv=>whnf
      refine dS (id:=2) (by rw[hX];exact Ba l) (bP rfl) (by rw[hX];simp;omega) (by rw[hX];simp;omega) (by simp) rfl ?_;conv=>whnf
      exact next s' (l ++[⟨dk,dp,dn,dts,des⟩]) _ _ _ k1 hb2 (by omega) (by omega) (by simp;omega) hv (by rw[hX];simp;rfl) rfl ⟨rfl,rfl,trivial⟩
     ·rw[if_pos hb2]at hv
      obtain⟨k1,k2,k3⟩:=hrr.2 hb2;have hgood:=((hsN.of hle).good).ok;have hsk:=MC F {s' with bad:=false} hgood rfl;have hag:jl (mR ({s' with bad:=false}:RS).rem {s' with bad:=false})=jl (oM s'):=rfl;rw[hag]at hsk;generalize jl (oM s')=g at hsk hv k1 k2 k3;conv=>whnf
      refine(hsk.at2 (fun x hx=>by cases hx) bH (d:=1) (p:=3) rfl rfl (by decide)).toR ?_;rw[k3];conv=>whnf
      exact next g l XS _ _ k1 k3 (by omega) (by omega) (by omega) hv hX rfl ⟨rfl,rfl,trivial⟩
 have Aj:(bE src).rem≤src.length+1:=by unfold RS.rem;omega
 refine inv_of [(6,.ptr 4 0),(7,.lst [] .nil)] ⟨rfl,rfl,trivial⟩ (key (bE src).rem (bE src) [] [] _ ⟨hok.lt,hok.more,hok.len,hok.txt,?_,hok.named,hok.num⟩ rfl (Nat.le_refl _) hn (by simp;omega) hR.symm rfl)
 have hp:(bE src).pot≤(bE src).diags.length+2*(bE src).toks.length+1:=by
  unfold RS.pot;split<;>omega
 omega
end Go.Ag
/- Package types: Size; cupelref07.Size; cupellaw08.Small. -/
namespace Go.Ag
open Go
variable {T : Tab} {L : Lnk}
theorem Ck :∀(n:Nat) (t:TA),wtT t≤n→16*(allT t).length≤wtT t
 |0=>fun t h=>by obtain⟨k,nm,ns,l⟩:=t;rw[wtT]at h;omega
 |n+1=>fun t h=>by
  obtain⟨k,nm,ns,l⟩:=t;rw[wtT]at h⊢;rw[allT,List.length_cons]
  have:∀l:List TA,wtL l≤n→16*(yj l).length≤wtL l:=fun l=>by
   induction l with
   |nil=>intro _;simp[yj]
   |cons a l ih=>
    intro h;rw[wtL]at h⊢;rw[yj,List.length_append];have h1:=Ck n a (by omega);have h2:=ih (by omega);omega
  have h2:=this l (by omega);omega
def szT (t:TA):Nat:=(allT t).length
def szL (l:List TA):Nat:=(yj l).length
theorem oD (k:Int) (nm:Bytes) (ns:List Bytes) (l:List TA):szT (.mk k nm ns l)=szL l+1:=by unfold szT szL;rw[allT,List.length_cons]
theorem fP (t:TA) (l:List TA):szL (t::l)=szT t+szL l:=by unfold szT szL;rw[yj,List.length_append]
theorem GY (t:TA):1≤szT t:=by obtain⟨k,nm,ns,l⟩:=t;rw[oD];omega
theorem Jm (l:List TA) (j:Nat) (h:j<l.length):szL (l.take (j+1))=szL (l.take j)+szT l[j]:=by
 have app:∀a b:List TA,szL (a ++b)=szL a+szL b:=fun a b=>by
  induction a with
  |nil=>simp[szL,yj]
  |cons t a ih=>rw[List.cons_append,fP,fP,ih];omega
 rw[List.take_succ_eq_append_getElem h,app,fP];simp[szL,yj]
theorem G5 :∀{l:List TA} {t:TA},t∈l→szT t≤szL l
 |[],t,h=>by cases h
 |a::l,t,h=>by
  rw[fP];rcases List.mem_cons.1 h with rfl|h
  ·omega
  ·have:=G5 h;omega
theorem uU (KL:T.has 190 Pj):∀(n:Nat) (t:TA),wtT t<n→wtT t≤2^40→Pure T.L 190 [t.av] (.int .i64 (szT t))
 |0=>fun t h=>by omega
 |n+1=>fun t hlt hw=>by
  have ih:=uU KL n;have hlen:=Ck _ t (Nat.le_refl _);obtain⟨k,nm,ns,l⟩:=t;refine Pure.run (dD (aQ _ _)) (.int _ _) (aG KL (by simp[Pj]) ?_);have hsz:szL l+1≤2^40:=by rw[←oD k nm ns l];unfold szT;omega
  rw[oD];conv=>whnf
  intro I hI hG
  have key:∀(d j:Nat) (e:Env),l.length-j=d→j≤l.length→I (gB e [(1,.ptr 0 0),(3,.int .i64 ((szL (l.take j)+1:Nat):Int)),(4,.int .i64 j)]) [.cells [.int .i64 k,.str nm,.lst (aO ns) .none,.lst (TA.avs l) .none] 109]:=by
   intro d
   induction d with
   |zero=>
    intro j e hd hj;have hjl:j=l.length:=by omega
    apply hI;conv=>whnf
    rw[show decide (((j:Nat):Int)<(((TA.avs l).length:Nat):Int))=false from by rw[bY,hjl];simp];conv=>whnf
    rw[hjl,List.take_length];exact aH (Weak.refl _)
   |succ d ihd=>
    intro j e hd hj;have hjl:j<l.length:=by omega
    have hget:=mP hjl;have hmem:=List.getElem_mem hjl;have hwl:=iP hmem;have hll:=q9 l;rw[wtT]at hlt hw;have hc:=ih l[j] (by omega) (by omega);have hnext:=fun e=>ihd (j+1) e (by omega) hjl
    rw[Jm l j hjl]at hnext
    have hs:szL (l.take j)+szT l[j]≤szL l:=by
     rw[←Jm l j hjl]
     have:∀(a b:List TA),szL a≤szL (a ++b):=fun a b=>by
      induction a with
      |nil=>simp[szL,yj]
      |cons t a ih=>rw[List.cons_append,fP,fP];omega
     have h2:=this (l.take (j+1)) (l.drop (j+1));rwa[List.take_append_drop]at h2
    generalize l[j]=v at hget hc hnext hs;apply hI;obtain⟨vk,vn,vs,vl⟩:=v;conv=>whnf
    rw[show decide (((j:Nat):Int)<(((TA.avs l).length:Nat):Int))=true from by rw[bY];simp;omega];conv=>whnf
    refine step_elem (Int.natCast_nonneg _) hget rfl ?_;conv=>whnf
    refine hc.to ?_;conv=>whnf
    refine inv_of [(1,.ptr 0 0),(3,.int .i64 ((szL (l.take j)+szT (.mk vk vn vs vl)+1:Nat):Int)),(4,.int .i64 (j+1:Nat))] ⟨rfl,?_,add1 (by omega),trivial⟩ (hnext _);show au.int .i64 (IntKind.i64.wrap (((szL (l.take j)+1:Nat):Int)+((szT (.mk vk vn vs vl):Nat):Int)))=_;rw[IntWalk.i64_in _ (by omega)]
    congr 1
    omega
  exact inv_of [(1,.ptr 0 0),(3,.int .i64 1),(4,.int .i64 0)] ⟨rfl,rfl,rfl,trivial⟩ (key l.length 0 _ rfl (Nat.zero_le _))
end Go.Ag
/- The types that a reader reads are good ones, and no bigger than their text. -/
namespace Go.Ag
open Go
def yu (m:Nat) (s:RS):Prop:=∀t∈s.toks,(t.kind=1→jB t.text)∧t.text.length≤m
theorem yu.le {m:Nat} {s s':RS} (h:yu m s) (hl:s.le s'):yu m s':=by unfold yu;rw[hl.toks];exact h
theorem Fe {s:RS} {w:Bytes} (h:s.bad=true):aD s w=s:=by
 unfold aD isR cZ;simp[h]
theorem Rm {s:RS} (h:(fu s).bad=false):s.bad=false:=by
 cases hb:s.bad
 ·rfl
 ·exfalso
  unfold fu at h;have h1:isR s kRb=false:=by unfold isR;simp[hb]
  rw[h1,Fe hb,h1]at h;simp[hb]at h
theorem Vs {n d:Nat} {l:List TA} {s:RS} (h:(jq n d l s).2.bad=false):s.bad=false:=by
 cases hb:s.bad
 ·rfl
 ·exfalso
  have h1:isR s mI=false:=by unfold isR;simp[hb]
  cases n with
  |zero=>rw[jq]at h;rw[hb]at h;cases h
  |succ n=>rw[jq,h1]at h;simp[hb]at h
theorem Nn {n d:Nat} {o:TA} {s:RS} (h:(dh n d o s).2.bad=false):s.bad=false:=by
 cases hb:s.bad
 ·rfl
 ·exfalso
  cases n with
  |zero=>rw[dh]at h;rw[hb]at h;cases h
  |succ n=>rw[dh]at h;simp[hb,Fe hb]at h
theorem Rz {n d:Nat} {s:RS} (h:(bV n d s).2.bad=false) (hn:2≤n):s.bad=false:=by
 cases hb:s.bad
 ·rfl
 ·exfalso
  obtain⟨m,rfl⟩:∃m,n=m+2:=⟨n-2,by omega⟩;have hp:dU (m+1) d s=(mJ,s):=by rw[dU,if_pos hb]
  have h1:isR s qL=false:=by unfold isR;simp[hb]
  rw[bV,hp,h1]at h;simp[hb]at h
theorem NZ {m:Nat} {s:RS} (hs:s.ok) (h:yu m s):(s.tok.kind=1→jB s.tok.text)∧s.tok.text.length≤m:=h _ (List.mem_of_getElem? (uP hs))
theorem Na {ns:List Bytes} {nm:Bytes} (h:ns.Pairwise (· < ·)) (hn:nm∉ns):(kg ns (mH ns nm) nm).Pairwise (· < ·):=by
 have h1:((ns.map fun n=>(n,())).map (·.1))=ns:=by rw[List.map_map];exact(List.map_congr_left (g:=id) fun x _=>rfl).trans (List.map_id ns)
 have h2:=Br (l:=ns.map fun n=>(n,())) (p:=(nm,())) (by rw[List.pairwise_map];exact h) (fun q hq=>by
  obtain⟨n,hm,rfl⟩:=List.mem_map.1 hq
  rintro rfl;exact hn hm)
 unfold Ku at h2;rw[h1]at h2;have h3:((kg (ns.map fun n=>(n,())) (mH ns nm) (nm,())).map (·.1)).Pairwise (· < ·):=List.pairwise_map.2 h2;rw[DU,h1]at h3;exact h3
theorem OD {α:Type} {l:List α} {i:Nat} {x y:α} (h:y∈kg l i x):y=x∨y∈l:=by
 unfold kg at h;simp only[List.mem_append,List.mem_singleton]at h;rcases h with(h|h)|h
 ·exact .inr (List.mem_of_mem_take h)
 ·exact .inl h
 ·exact .inr (List.mem_of_mem_drop h)
theorem OC {α:Type} (f:α→Nat) (l:List α) (i:Nat) (x:α):((kg l i x).map f).sum=(l.map f).sum+f x:=by
 unfold kg
 have h:(l.map f).sum=((l.take i).map f).sum+((l.drop i).map f).sum:=by
  conv=>lhs;rw[←List.take_append_drop i l]
  rw[List.map_append,List.sum_append_nat]
 rw[h];simp only[List.map_append,List.sum_append_nat,List.map_cons,List.map_nil,List.sum_cons,List.sum_nil];omega
structure GoodR (m n:Nat):Prop where
 typ:∀d s,s.ok→yu m s→6*s.rem+6≤n→((bM n d s).2.bad=false→GT (bM n d s).1)∧wtT (bM n d s).1≤48+(80+m)*((bM n d s).2.i-s.i)
 alts:∀d l s,s.ok→yu m s→6*s.rem+1≤n→((jq n d l s).2.bad=false→(∀t∈l,GT t)→∀t∈(jq n d l s).1,GT t)∧(l≠[]→(jq n d l s).1≠[])∧wtL (jq n d l s).1≤wtL l+(80+m)*((jq n d l s).2.i-s.i)
 arrow:∀d s,s.ok→yu m s→6*s.rem+5≤n→((bV n d s).2.bad=false→GT (bV n d s).1)∧wtT (bV n d s).1≤16+(80+m)*((bV n d s).2.i-s.i)
 plain:∀d s,s.ok→yu m s→6*s.rem+4≤n→((dU n d s).2.bad=false→GT (dU n d s).1)∧wtT (dU n d s).1≤16+(80+m)*((dU n d s).2.i-s.i)
 fields:∀d o s,s.ok→yu m s→6*s.rem+8≤n→(∃ns l,o=.mk 5 [] ns l)→((dh n d o s).2.bad=false→(∃ns l,o=.mk 5 [] ns l∧ns.Pairwise (· < ·)∧ns.length=l.length∧(∀n∈ns,jB n)∧∀t∈l,GT t)→GT (dh n d o s).1)∧wtT (dh n d o s).1≤wtT o+(80+m)*((dh n d o s).2.i-s.i)
theorem yC :wtT mJ=16:=rfl
theorem Bl {c a b:Nat} (h:a≤b):c*a≤c*b:=Nat.mul_le_mul_left _ h
theorem Gc (m:Nat):∀n,GoodR m n:=fun n=>by
 induction n with
 |zero=>exact⟨fun d s _ _ h=>by omega,fun d l s _ _ h=>by omega,fun d s _ _ h=>by omega,fun d s _ _ h=>by omega,fun d o s _ _ h=>by omega⟩
 |succ n ih=>
  obtain⟨l1,l2,l3,l4,l5⟩:=bN n;refine⟨fun d s hs hg hf=>?_,fun d l s hs hg hf=>?_,fun d s hs hg hf=>?_,fun d s hs hg hf=>?_,fun d o s hs hg hf ho=>?_⟩
  ·rw[bM]
   have hle:s.le (if 64<d then cZ s 3 else s):=by
    split
    ·exact kV hs 3
    ·exact RS.le.refl hs
   have hi:(if 64<d then cZ s 3 else s).i=s.i:=by
    split
    ·unfold cZ;split<;>rfl
    ·rfl
   generalize (if 64<d then cZ s 3 else s)=s1 at hle hi⊢;have hs1:=hs.of hle;have hg1:=hg.le hle;have hr1:s1.rem=s.rem:=by unfold RS.rem;rw[hi,hle.toks]
   split
   ·rename_i hb
    exact⟨fun h=>absurd hb (by rw[h];simp),by rw[yC];omega⟩
   ·rename_i hb
    obtain⟨k1,k2⟩:=ih.arrow d s1 hs1 hg1 (by omega);have hla:=l3 d s1 hs1;generalize bV n d s1=q at k1 k2 hla⊢;obtain⟨a,s2⟩:=q;dsimp only at k1 k2 hla⊢;have hs2:=hs1.of hla;have hr2:s2.rem≤s1.rem:=hla.rem;split
    ·rename_i hbar
     obtain⟨j1,j2,j3⟩:=ih.alts d [a] s2 hs2 (hg1.le hla) (by omega);have hlb:=l2 d [a] s2 hs2;generalize jq n d [a] s2=q2 at j1 j2 j3 hlb⊢;obtain⟨al,s3⟩:=q2;dsimp only at j1 j2 j3 hlb⊢;have hb2:s2.bad=false:=by unfold isR at hbar;cases h:s2.bad<;>simp[h]at hbar⊢
     refine⟨fun h=>.uni al (j2 (by simp)) (j1 h fun t ht=>by rw[List.mem_singleton]at ht;subst ht;exact k1 hb2),?_⟩;have hia:=hla.i;have hib:=hlb.i;rw[wtT];rw[wtL,wtL]at j3;simp only[List.length_nil,List.map_nil,List.sum_nil];have e1:(80+m)*(s3.i-s.i)=(80+m)*(s2.i-s1.i)+(80+m)*(s3.i-s2.i):=by rw[←Nat.mul_add];congr 1;omega
     rw[e1];omega
    ·refine⟨k1,?_⟩
     rw[hi]at k2;dsimp only;omega
  ·rw[jq]
   split
   ·rename_i hbar
    have Aj:=eO hs hbar;have hlt:=aL hs mI;have hst:=hs.of hlt;have hyes:=jL hbar;obtain⟨k1,k2⟩:=ih.arrow d (aD s mI) hst (hg.le hlt) (by omega);have hla:=l3 d (aD s mI) hst;have hib:(aD s mI).i=s.i+1:=by rw[hyes]
    have hab:=@Rz n d (aD s mI);generalize aD s mI=s1 at*;generalize bV n d s1=q at k1 k2 hla hab⊢;obtain⟨a,s2⟩:=q;dsimp only at k1 k2 hla hab⊢;have hs2:=hst.of hla;have hr2:s2.rem≤s1.rem:=hla.rem;obtain⟨j1,j2,j3⟩:=ih.alts d (l ++[a]) s2 hs2 ((hg.le hlt).le hla) (by omega);have hlb:=l2 d (l ++[a]) s2 hs2;have hbd:=@Vs n d (l ++[a]) s2;generalize jq n d (l ++[a]) s2=q2 at j1 j2 j3 hlb hbd⊢;obtain⟨al,s3⟩:=q2;dsimp only at j1 j2 j3 hlb hbd⊢;refine⟨fun h hl=>j1 h fun t ht=>?_,fun _=>j2 (by simp),?_⟩
    ·rcases List.mem_append.1 ht with ht|ht
     ·exact hl t ht
     ·rw[List.mem_singleton]at ht;subst ht;exact k1 (hbd h)
    ·rw[xK,wtL,wtL]at j3
     have h1:=hla.i;have h2:=hlb.i
     have e1:(80+m)*(s3.i-s.i)=(80+m)+((80+m)*(s2.i-s1.i)+(80+m)*(s3.i-s2.i)):=by
      rw[←Nat.mul_add];have:s3.i-s.i=1+(s2.i-s1.i+(s3.i-s2.i)):=by omega
      rw[this,Nat.mul_add,Nat.mul_one]
     rw[e1];omega
   ·exact⟨fun _ h=>h,fun h=>h,by dsimp only;omega⟩
  ·rw[bV]
   obtain⟨k1,k2⟩:=ih.plain d s hs hg (by omega);have hla:=l4 d s hs;generalize dU n d s=q at k1 k2 hla⊢;obtain⟨a,s1⟩:=q;dsimp only at k1 k2 hla⊢;have hs1:=hs.of hla;have hr1:s1.rem≤s.rem:=hla.rem;split
   ·rename_i harr
    have hb1:s1.bad=false:=by unfold isR at harr;cases h:s1.bad<;>simp[h]at harr⊢
    have hlt:=aL hs1 qL;have hst:=hs1.of hlt;have Aj:=eO hs1 harr;have hyes:=jL harr;have hib:(aD s1 qL).i=s1.i+1:=by rw[hyes]
    split
    ·have hgl:=kV hst 3
     refine⟨fun h=>?_,?_⟩
     ·exfalso
      have:(aD s1 qL).bad=false:=by rw[hyes];exact hb1
      unfold cZ at h;rw[if_neg (by rw[this];simp)]at h;cases h
     ·have h1:=hgl.i
      have h2:=hla.i;have:=Bl (c:=80+m) (show s1.i-s.i≤(cZ (aD s1 qL) 3).i-s.i by omega);dsimp only;omega
    ·obtain⟨j1,j2⟩:=ih.arrow (d+1) (aD s1 qL) hst ((hg.le hla).le hlt) (by omega)
     have hlb:=l3 (d+1) (aD s1 qL) hst;generalize aD s1 qL=s2 at*;generalize bV n (d+1) s2=q2 at j1 j2 hlb⊢;obtain⟨b,s3⟩:=q2;dsimp only at j1 j2 hlb⊢;refine⟨fun h=>.fn a b (k1 hb1) (j1 h),?_⟩;have h1:=hla.i;have h2:=hlb.i;rw[wtT,wtL,wtL,wtL];simp only[List.length_nil,List.map_nil,List.sum_nil]
     have e1:(80+m)*(s3.i-s.i)=(80+m)+((80+m)*(s1.i-s.i)+(80+m)*(s3.i-s2.i)):=by
      rw[←Nat.mul_add];have:s3.i-s.i=1+(s1.i-s.i+(s3.i-s2.i)):=by omega
      rw[this,Nat.mul_add,Nat.mul_one]
     rw[e1];omega
   ·exact⟨k1,k2⟩
  ·rw[dU]
   have htk:=NZ hs hg;have hone:∀(w:Bytes) (t:TA),isR s w=true→GT t→wtT t=16→((t,aD s w).2.bad=false→GT (t,aD s w).1)∧wtT (t,aD s w).1≤16+(80+m)*((t,aD s w).2.i-s.i):=fun w t _ hg hw=>⟨fun _=>hg,by dsimp only;omega⟩
   split
   ·rename_i hb
    exact⟨fun h=>absurd hb (by rw[h];simp),by rw[yC];omega⟩
   split
   ·rename_i hk
    refine⟨fun _=>.ref _ (htk.1 hk),?_⟩;rw[wtT];simp only[List.map_nil,List.sum_nil,wtL,Nat.add_sub_cancel_left,Nat.mul_one];have:=htk.2;omega
   split
   ·rename_i h;exact hone _ _ h .int rfl
   split
   ·rename_i h;exact hone _ _ h .bool rfl
   split
   ·rename_i h;exact hone _ _ h .text rfl
   split
   ·rename_i h;exact hone _ _ h .dyn rfl
   split
   ·rename_i h
    have hlt:=aL hs kLb;have Aj:=eO hs h;have hst:=hs.of hlt;obtain⟨j1,j2⟩:=ih.fields d (.mk 5 [] [] []) (aD s kLb) hst (hg.le hlt) (by omega) ⟨_,_,rfl⟩;have hlb:=l5 d (.mk 5 [] [] []) (aD s kLb) hst;refine⟨fun hb=>j1 hb ⟨[],[],rfl,by simp,rfl,fun n hn=>(by cases hn),fun t ht=>(by cases ht)⟩,?_⟩;have h0:wtT (.mk 5 [] [] [])=16:=rfl;have h1:=hlt.i;have:=Bl (c:=80+m) (show(dh n d (.mk 5 [] [] []) (aD s kLb)).2.i-(aD s kLb).i≤(dh n d (.mk 5 [] [] []) (aD s kLb)).2.i-s.i by omega);omega
   split
   ·rename_i hb
    exact⟨fun h=>absurd hb (by rw[h];simp),by rw[yC];omega⟩
   ·rename_i hb
    have hb:(aD s kLp).bad=false:=by simpa using hb
    obtain⟨hb0,his,hyes⟩:=ji hb;have hlt:=aL hs kLp;have Aj:=eO hs his;have hst:=hs.of hlt;have hib:(aD s kLp).i=s.i+1:=by rw[hyes]
    obtain⟨j1,j2⟩:=ih.typ (d+1) (aD s kLp) hst (hg.le hlt) (by omega);have hlb:=l1 (d+1) (aD s kLp) hst;have hlc:=aL (hst.of hlb) kRp;refine⟨fun h=>j1 (ji h).1,?_⟩;have h1:=hlb.i;have h2:=hlc.i;generalize aD s kLp=s1 at*;generalize bM n (d+1) s1=q at*;dsimp only;have e1:=Bl (c:=80+m) (show(q.2.i-s1.i)+1≤(aD q.2 kRp).i-s.i by omega);rw[Nat.mul_add,Nat.mul_one]at e1;omega
  ·obtain⟨ns,l,rfl⟩:=ho
   rw[dh];split
   ·rename_i hcond
    split
    ·rename_i hb
     exact⟨fun h=>absurd hb (by rw[h];simp),by rw[yC];have:=BK (.mk 5 [] ns l);omega⟩
    ·rename_i hb
     have hb:(aD (aK s).2 aS).bad=false:=by simpa using hb
     have hln:=bS hs;have hlt:=hln.trans (aL (hs.of hln) aS);have hst:=hs.of hlt;have Aj:=tC hs aS hb;obtain⟨h3,h4,h5⟩:=ji hb;obtain⟨h6,h7,h8⟩:=qo h3;have hnm:jB (aK s).1.text∧(aK s).1.text.length≤m:=by rw[h8];exact⟨(NZ hs hg).1 h7,(NZ hs hg).2⟩
     have hi2:(aD (aK s).2 aS).i=s.i+2:=by rw[h5,h8]
     split
     ·have k1:=lK hs aS hb
      have hg1:=hg.le k1;have hs1:=hs.of k1;have hrr:(gu (aD (aK s).2 aS) (aK s).1).rem=(aD (aK s).2 aS).rem:=rfl;have hii:(gu (aD (aK s).2 aS) (aK s).1).i=(aD (aK s).2 aS).i:=rfl;have k2:=l1 (d+1) _ hs1;have k3:=gU (hs1.of k2);have r2:=k2.rem;have r3:=k3.rem;obtain⟨j1,j2⟩:=ih.fields d (.mk 5 [] ns l) _ ((hs1.of k2).of k3) ((hg1.le k2).le k3) (by omega) ⟨_,_,rfl⟩;refine⟨j1,?_⟩;have k4:=l5 d (.mk 5 [] ns l) _ ((hs1.of k2).of k3);have e0:=k2.i;have e1:=k3.i;have e2:=k4.i;have:=Bl (c:=80+m) (show(dh n d (.mk 5 [] ns l) (fu (bM n (d+1) (gu (aD (aK s).2 aS) (aK s).1)).2)).2.i-(fu (bM n (d+1) (gu (aD (aK s).2 aS) (aK s).1)).2).i≤(dh n d (.mk 5 [] ns l) (fu (bM n (d+1) (gu (aD (aK s).2 aS) (aK s).1)).2)).2.i-s.i by omega);omega
     ·rename_i hnot
      have hnot:(aK s).1.text∉ns:=KC (by simpa[TA.names]using hnot);have hg1:=hg.le hlt;have k2:=l1 (d+1) _ hst;have k3:=gU (hst.of k2);have r2:=k2.rem;have r3:=k3.rem;obtain⟨t1,t2⟩:=ih.typ (d+1) _ hst hg1 (by omega);simp only[TA.names,TA.l];generalize aD (aK s).2 aS=s1 at*;generalize (aK s).1.text=nm at*;generalize bM n (d+1) s1=q at*;obtain⟨t,s2⟩:=q;dsimp only at*;have hc0:=@Rm s2;generalize fu s2=s3 at*;obtain⟨j1,j2⟩:=ih.fields d (.mk 5 [] (kg ns (mH ns nm) nm) (kg l (mH ns nm) t)) s3 ((hst.of k2).of k3) ((hg1.le k2).le k3) (by omega) ⟨_,_,rfl⟩;have k4:=l5 d (.mk 5 [] (kg ns (mH ns nm) nm) (kg l (mH ns nm) t)) s3 ((hst.of k2).of k3);have hfb:=@Nn n d (.mk 5 [] (kg ns (mH ns nm) nm) (kg l (mH ns nm) t)) s3;generalize dh n d (.mk 5 [] (kg ns (mH ns nm) nm) (kg l (mH ns nm) t)) s3=q2 at*
      refine⟨fun h ⟨ns',l',e,p1,p2,p3,p4⟩=>?_,?_⟩
      ·cases e
       refine j1 h ⟨_,_,rfl,Na p1 hnot,?_,fun n hn=>?_,fun x hx=>?_⟩
       ·rw[ze,ze,p2]
       ·rcases OD hn with rfl|hn
        ·exact hnm.1
        ·exact p3 n hn
       ·rcases OD hx with rfl|hx
        ·exact t1 (hc0 (hfb h))
        ·exact p4 x hx
      ·rw[wtT,tu,OC,OC,←tu]at j2
       rw[wtT];have e0:=k2.i;have e1:=k3.i;have e2:=k4.i;have hm:=hnm.2
       have e3:(80+m)*(q2.2.i-s.i)≥(80+m)*2+((80+m)*(s2.i-s1.i)+(80+m)*(q2.2.i-s3.i)):=by
        rw[←Nat.mul_add,←Nat.mul_add];exact Bl (by omega)
       omega
   ·refine⟨fun h ⟨ns',l',e,p1,p2,p3,p4⟩=>?_,by dsimp only;omega⟩
    cases e;exact .rcd ns l p1 p2 p3 p4
end Go.Ag
/- Types of a source: good, and not much. -/
namespace Go.Ag
open Go
theorem R8 {p:UInt8→Bool} {src:Bytes} {k:Nat}:∀c∈ku src k (iI p src k),p c=true:=by
 intro c hc;unfold ku iI at hc
 have h1:((src.take (k+((src.drop k).takeWhile p).length)).drop k)=(src.drop k).takeWhile p:=by
  rw[List.drop_take,Nat.add_sub_cancel_left];generalize src.drop k=l;have h2:l=l.takeWhile p ++l.dropWhile p:=List.takeWhile_append_dropWhile.symm;conv=>lhs;arg 2;rw[h2]
  rw[List.take_left]
 rw[h1]at hc;exact MU hc
theorem Il {src:Bytes} {k:Nat} {c:UInt8} (h:src[k]?=some c):∀t∈(bB src k c).2.1,t.kind=1→jB t.text:=by
 have hne:=xD h
 have no:∀{n:Int} {a:Int} {x:Bytes},n≠1→∀t∈[(⟨n,a,x⟩:dA)],t.kind=1→jB t.text:=fun hn t ht hk=>by
  simp only[List.mem_singleton]at ht;subst ht;exact absurd hk hn
 have nil:∀t∈([]:List dA),t.kind=1→jB t.text:=fun t ht=>by cases ht
 unfold bB at hne⊢;split at hne
 ·rename_i h1;rw[if_pos h1];exact nil
 rename_i h1;rw[if_neg h1];split at hne
 ·rename_i h2;rw[if_pos h2];exact nil
 rename_i h2;rw[if_neg h2];split at hne
 ·rename_i h3
  rw[if_pos h3];intro t ht hk;have hne:=hne t ht hk;simp only[List.mem_singleton]at ht;subst ht;dsimp only at hk hne⊢
  have hw:qO (ku src k (bR src k bW))=false:=by
   cases hw:qO (ku src k (bR src k bW))
   ·rfl
   ·rw[hw,if_pos rfl]at hk;cases hk
  have hn:∀w∈eY,ku src k (bR src k bW)≠w:=fun w hm e=>by
   unfold qO at hw;rw[List.any_eq_false]at hw;exact hw w hm (by rw[e];simp)
  exact⟨hne,R8 (p:=(inA · bW)),hn Iq (by decide),hn za (by decide),hn y9 (by decide)⟩
 rename_i h3;rw[if_neg h3];clear hne;split
 ·split
  ·exact no (by decide)
  ·exact no (by decide)
 split
 ·split
  ·exact no (by decide)
  ·exact nil
 split
 ·exact no (by decide)
 split
 ·exact no (by decide)
 ·exact nil
theorem Dy (src:Bytes):∀(n k:Nat) (l:List dA) (d:List bO),(∀t∈l,t.kind=1→jB t.text)→∀t∈(iK src n k l d).1,t.kind=1→jB t.text
 |0,k,l,d,h=>h
 |n+1,k,l,d,h=>by
  rw[iK];split
  ·rename_i c hc
   refine Dy src n _ _ _ fun t ht=>?_
   rcases List.mem_append.1 ht with ht|ht
   ·exact h t ht
   ·exact Il hc t ht
  ·exact h
theorem CP (src:Bytes):yu (src.length+2) (bE src):=by
 intro t ht;have h1:∀t∈(iK src src.length 0 [] []).1,t.kind=1→jB t.text:=Dy src src.length 0 [] [] fun t ht=>by cases ht
 have h2:=(vG src src.length 0 [] [] 0 (by simp) (by simp) (fun t ht=>by cases ht)).2.2;have ht:t∈(iK src src.length 0 [] []).1 ++[⟨6,src.length,[]⟩]:=ht;rcases List.mem_append.1 ht with ht|ht
 ·exact⟨h1 t ht,h2 t ht⟩
 ·simp only[List.mem_singleton]at ht
  subst ht;exact⟨fun h=>absurd (show(6:Int)=1 from h) (by decide),by simp⟩
theorem Mc (src:Bytes) (hs:src.length≤2^31) (h:(gJ src).2=true):GT (gJ src).1∧wtT (gJ src).1≤48+(src.length+82)*(src.length+1):=by
 obtain⟨hok,hlen,_⟩:=mQ src (by omega);have hg:=(Gc (src.length+2) (lJ src)).typ 1 (bE src) hok (CP src) (by unfold lJ;omega);have hle:=(bN (lJ src)).1 1 (bE src) hok;unfold gJ at h⊢;unfold E9 at h⊢;generalize bM (lJ src) 1 (bE src)=q at hg hle h⊢;cases hj:uG q.2
 ·rw[hj,if_neg (by simp)]at h
  cases h
 ·rw[if_pos rfl]
  have hb:q.2.bad=false:=by
   unfold uG at hj;cases hb:q.2.bad
   ·rfl
   ·rw[hb]at hj;cases hj
  refine⟨hg.1 hb,Nat.le_trans hg.2 ?_⟩;have h1:=hle.lt;have h2:=Bl (c:=src.length+82) (show q.2.i-(bE src).i≤src.length+1 by omega);have h3:80+(src.length+2)=src.length+82:=by omega
  rw[h3];omega
end Go.Ag
/- Abstract codes, printed by a program of ours (acode.py) out of the given program's form. -/
namespace Go.Ag
open Go
def Vf :aM:=(.mk 0 27 [0] (.seq (.ops [(.d 0 (.mv (.const (.bool false))))]) (.seq (.ops [(.d 2 (.call 144 [(.const .nl)])),(.d 1 (.mv 2))]) (.seq (.ops [(.d 3 (.mv 1)),(.d 4 (.call 172 [(.const (.str [123,97,58,32,105,110,116,44,32,98,58,32,63,125]))])),(.d 5 (.call 172 [(.const (.str [123,97,58,32,105,110,116,32,124,32,98,111,111,108,125]))])),(.d 6 (.call 162 [3,4,5])),(.d 7 (.mv 6)),(.g 8 (.mv 1) 7 true),(.g 9 (.call 172 [(.const (.str [63]))]) 7 true),(.g 10 (.call 172 [(.const (.str [105,110,116]))]) 7 true),(.g 11 (.call 163 [8,9,10]) 7 true),(.d 12 (.pick 7 11 (.const (.bool false)))),(.d 13 (.mv 12)),(.g 14 (.mv 1) 13 true),(.g 15 (.call 172 [(.const (.str [63]))]) 13 true),(.g 16 (.call 172 [(.const (.str [105,110,116]))]) 13 true),(.g 17 (.call 162 [14,15,16]) 13 true),(.g 18 (.un .not 17) 13 true),(.d 19 (.pick 13 18 (.const (.bool false)))),(.d 20 (.mv 19)),(.g 21 (.mv 1) 20 true),(.g 22 (.call 172 [(.const (.str [105,110,116]))]) 20 true),(.g 23 (.call 172 [(.const (.str [98,111,111,108]))]) 20 true),(.g 24 (.call 163 [21,22,23]) 20 true),(.g 25 (.un .not 24) 20 true),(.d 26 (.pick 20 25 (.const (.bool false)))),(.d 0 (.mv 26))]) .ret))))
def Va :aM:=(.mk 1 11 [(.cell 2 (some 4))] (.seq (.ops [(.d 2 (.alloc [(.i 0),(.str []),.nl,.nl] 175))]) (.seq (.ops [(.d 6 (.mv 0)),(.d 7 (.call 142 [6])),(.d 5 (.mv 7)),(.d 8 (.ext 5 0)),(.d 9 (.ext 5 1)),(.d 3 (.alloc [(.i 0),(.str []),.nl,.nl] 175)),(.n (.store 4 3 8)),(.d 4 (.mv 9))]) (.seq (.ops [(.d 10 (.load (some 4) 3)),(.n (.store 4 2 10))]) .ret))))
end Go.Ag
/- Package cupellaw09: typ, alive, list. -/
namespace Go.Ag
open Go
variable {T : Tab} {L : Lnk}
structure NP (T:Tab):Prop extends oN T,zG T where
 XV:T.has 161 Vf
 XR:T.has 172 Va
theorem PW (F:NP T) (s:Bytes) (hs:s.length≤2^31):Pure T.L 172 [.str s] (gJ s).1.av:=by
 have h:=GA F.tozG s hs;generalize gJ s=q at h⊢;obtain⟨⟨k,nm,ns,l⟩,b⟩:=q;refine Pure.run (dD (.str _)) (aQ _ _) (aG F.XR (by simp[Va]) ?_);conv=>whnf
 refine h.to ?_;conv=>whnf
 exact aH (Weak.refl _)
theorem YT :gJ [123,97,58,32,105,110,116,44,32,98,58,32,63,125]=(.mk 5 [] [[97],[98]] [.mk 1 [] [] [],.mk 4 [] [] []],true):=by kernel_rfl
theorem typ_a :gJ [123,97,58,32,105,110,116,32,124,32,98,111,111,108,125]=(.mk 5 [] [[97]] [.mk 7 [] [] [.mk 1 [] [] [],.mk 2 [] [] []]],true):=by kernel_rfl
theorem VL :gJ [63]=(.mk 4 [] [] [],true):=by kernel_rfl
theorem VK :gJ [105,110,116]=(.mk 1 [] [] [],true):=by kernel_rfl
theorem RU :gJ [98,111,111,108]=(.mk 2 [] [] [],true):=by kernel_rfl
end Go.Ag
/- Package cupellaw09: alive. -/
namespace Go.Ag
open Go
variable {T : Tab} {L : Lnk}
theorem aC.E5 {f:Nat} {args args':List au} {H:Heap} {Q:fE→Heap→Prop} (h:aC L f args' H Q) (hw:ni L args args'):aC L f args H Q:=fun g w vs hs hr=>h g w vs hs (hr.weak hw)
structure GH (e:dL) (H:Heap) (a:Nat):Prop where
 h0:H[a]?=some (.map (cu e.by_ 0) e.by_.length)
 h1:H[a+1]?=some (.map (gF e.empty 0) e.empty.length)
 h2:H[a+2]?=some (.cells [.map a,.map (a+1)] 234)
theorem EK.any {f:Nat} {args:List au} {e:dL} {y:au} (h:EK L f args e y) (ha:∀x∈args,Low 0 x) (hy:Low 0 y) {H:Heap} {a:Nat} (hA:GH e H a) {K KP:au→Heap→Prop} (hk:K y H):aC L f (.ptr (a+2) 0::args) H (eB K KP):=by
 have hp:Part H [a,a+1,a+2] (iU e):=by
  refine⟨by simp,rfl,fun k i o hk ho=>?_⟩
  match k,hk,ho with
  |0,hk,ho=>cases hk;cases ho;rw[gD (show bI 0 (.map (cu e.by_ 0) e.by_.length)from dY 0 _ _)];exact hA.h0
  |1,hk,ho=>cases hk;cases ho;rw[gD (show bI 0 (.map (gF e.empty 0) e.empty.length)from fA 0 _ _)];exact hA.h1
  |2,hk,ho=>cases hk;cases ho;exact hA.h2
  |k+3,hk,ho=>cases hk
 have hf:=aC.TN (y':=y) (args':=.ptr (a+2) 0::args) h (fun o ho=>by
  simp only[iU,List.mem_cons,List.not_mem_nil,or_false]at ho
  rcases ho with rfl|rfl|rfl<;>rfl) [a,a+1,a+2] hp (by
  rw[List.map_cons];have:args.map (ren (nameOf [a,a+1,a+2] H.length))=args:=(List.map_congr_left (g:=id) fun x hx=>kF (ha x hx)).trans (List.map_id _)
  rw[this];rfl) (kF hy)
 exact hf.to1 hk
theorem ZR (F:zL T) (l:List (Bytes×TA)) (hl:l.length≤2^30) (hok:∀p∈l,okN p.2) (hE:∀p∈jA l,wtT p.2≤2^40) (tk:Tok) (H:Heap):
  aC T.L 144 [.lst (fV l) tk] H fun r H'=>∃e,lq (jA l) e∧r=.ret (.ptr (H.length+2) 0)∧H'=H ++[.map (cu e.by_ 0) e.by_.length,.map (gF e.empty 0) e.empty.length,.cells [.map H.length,.map (H.length+1)] 234]:=by
 have h:=LM F l hl hok hE (fun p hp=>Ny _ _ _);have hp:Part H [] []:=⟨by simp,rfl,fun k i o hk=>by cases hk⟩;have hf:=aC.mY h [] hp (.inr fun r H' _=>Nat.zero_le _)
 have hargs:[au.lst (fV l) .none].map (ren (nameOf [] H.length))=[.lst (fV l) .none]:=by
  rw[List.map_cons,List.map_nil,kF (show Low 0 (au.lst (fV l) .none)from .lst _ _ trivial (sK 0 l))]
 rw[hargs]at hf;refine(hf.mono fun r H' ⟨r1,H1,⟨e,h1,h2,h3⟩,_,h4,h5⟩=>⟨e,h1,?_,?_⟩).E5 ⟨Weak.tok _ _,trivial⟩
 ·rw[h4,h2]
  simp only[zT,ren];rw[jI (Nat.zero_le _)];rfl
 ·rw[h5,h3]
  simp only[List.length_nil,List.take_zero,List.map_nil,List.drop_zero,mG]
  congr 1
  simp only[iU,List.map_cons,List.map_nil];rw[gD (show bI 0 (.map (cu e.by_ 0) e.by_.length)from dY 0 _ _),gD (show bI 0 (.map (gF e.empty 0) e.empty.length)from fA 0 _ _)];simp only[gV,iD,ren];rw[jI (Nat.zero_le _),jI (Nat.zero_le _)];rfl
def tA1 :TA:=.mk 5 [] [[97],[98]] [.mk 1 [] [] [],.mk 4 [] [] []]
def tA2 :TA:=.mk 5 [] [[97]] [.mk 7 [] [] [.mk 1 [] [] [],.mk 2 [] [] []]]
theorem g97 :jB [97]:=⟨by decide,by decide,by decide,by decide,by decide⟩
theorem g98 :jB [98]:=⟨by decide,by decide,by decide,by decide,by decide⟩
theorem IB {a b:TA} (ha:GT a) (hb:GT b):∀t∈[a,b],GT t:=fun t ht=>by
 simp only[List.mem_cons,List.not_mem_nil,or_false]at ht;rcases ht with rfl|rfl
 ·exact ha
 ·exact hb
theorem YG :GT tA1:=.rcd _ _ (by decide) rfl (fun n hn=>by
 simp only[List.mem_cons,List.not_mem_nil,or_false]at hn;rcases hn with rfl|rfl
 ·exact g97
 ·exact g98) (IB .int .dyn)
theorem TJ :GT (.mk 7 [] [] [.mk 1 [] [] [],.mk 2 [] [] []]):=.uni _ (by simp) (IB .int .bool)
theorem YF :GT tA2:=.rcd _ _ (by decide) rfl (fun n hn=>by
 rw[List.mem_singleton]at hn;subst hn;exact g97) fun t ht=>by rw[List.mem_singleton]at ht;subst ht;exact TJ
theorem D7 {bs:List TA} {t:TA} (h:GT t) (hw:wtT t≤2^30) (hm:aN t∈bs):GC' (bs.flatMap gZ) t:=⟨h,hw,List.mem_flatMap.2 ⟨_,hm,pI _⟩⟩
structure qI (e:dL) (C:List TA):Prop where
 W:iW [] e C
 a1:GC' C tA1
 a2:GC' C tA2
 i:GC' C (.mk 1 [] [] [])
 b:GC' C (.mk 2 [] [] [])
 d:GC' C (.mk 4 [] [] [])
 ib:GC' C (aN (.mk 7 [] [] [.mk 1 [] [] [],.mk 2 [] [] []]))
theorem Kc :aN (.mk 1 [] [] [])=.mk 1 [] [] []:=iF .int
theorem Zc :aN (.mk 2 [] [] [])=.mk 2 [] [] []:=iF .bool
theorem Wy :aN (.mk 4 [] [] [])=.mk 4 [] [] []:=iF .dyn
theorem Yr {e:dL} (hE:lq [] e):∃C,qI e C:=by
 have hib:=kJ TJ;have hw:=lI (.mk 7 [] [] [.mk 1 [] [] [],.mk 2 [] [] []]);have h1:=lI tA1;have h2:=lI tA2;have e1:wtT (.mk 7 [] [] [.mk 1 [] [] [],.mk 2 [] [] []])=64:=by decide
 have e2:wtT tA1≤100:=by decide
 have e3:wtT tA2≤120:=by decide
 refine⟨[aN tA1,aN tA2,.mk 1 [] [] [],.mk 2 [] [] [],.mk 4 [] [] [],aN (.mk 7 [] [] [.mk 1 [] [] [],.mk 2 [] [] []])].flatMap gZ,Yd hE (by simp) _ (fun p hp=>by cases hp) (fun t ht=>?_) (fun t ht=>?_) (by simp) (fun nm h=>absurd (.inl rfl) h),
  D7 YG (by omega) (by simp),D7 YF (by omega) (by simp),D7 .int (by decide) (by rw[Kc];simp),D7 .bool (by decide) (by rw[Zc];simp),D7 .dyn (by decide) (by rw[Wy];simp),D7 hib.gt (by omega) (by rw[iF hib];simp)⟩
 ·simp only[List.mem_cons,List.not_mem_nil,or_false]at ht
  rcases ht with rfl|rfl|rfl|rfl|rfl|rfl
  ·exact kJ YG
  ·exact kJ YF
  ·exact .int
  ·exact .bool
  ·exact .dyn
  ·exact hib
 ·simp only[List.mem_cons,List.not_mem_nil,or_false]at ht
  rcases ht with rfl|rfl|rfl|rfl|rfl|rfl
  ·omega
  ·omega
  ·decide
  ·decide
  ·decide
  ·omega
theorem qI.ii {e:dL} {C:List TA} (A:qI e C):LE (GC' C) (hdE e) false (.mk 1 [] [] []) (aN (.mk 7 [] [] [.mk 1 [] [] [],.mk 2 [] [] []])):=by
 refine LE.fold A.i A.ib fun x hx=>?_
 have hx:=(A.W.uz A.i Kc (by decide) (by decide)).1 hx;subst hx;refine⟨.mk 1 [] [] [],?_,.inr ⟨by decide,rfl,.inl (by decide)⟩⟩;have hj:=R6 (by_:=[]) (IB .int .bool) (by simp)
 have hn:¬∃t∈[TA.mk 1 [] [] [],.mk 2 [] [] []],Spr [] (aN t) jP:=fun⟨t,ht,h⟩=>by
  simp only[List.mem_cons,List.not_mem_nil,or_false]at ht;rcases ht with rfl|rfl
  ·rw[Kc,yF (by decide) (by decide)]at h;cases h
  ·rw[Zc,yF (by decide) (by decide)]at h;cases h
 rw[A.W.MV A.ib,iF (kJ TJ)];exact .inr ⟨fun h=>hn (hj.1.1 h),(hj.2 hn _).2 ⟨.mk 1 [] [] [],by simp,by rw[Kc];exact .self _ (by decide) (by decide)⟩⟩
theorem qI.s1 {e:dL} {C:List TA} (A:qI e C):LE (GC' C) (hdE e) false tA1 tA2:=by
 refine LE.fold A.a1 A.a2 fun x hx=>?_
 have e1:aN tA1=tA1:=by unfold tA1;rw[aN,if_neg (by decide),dP];simp only[List.map_cons,List.map_nil,Kc,Wy]
 have e2:aN tA2=.mk 5 [] [[97]] [aN (.mk 7 [] [] [.mk 1 [] [] [],.mk 2 [] [] []])]:=by unfold tA2;rw[aN,if_neg (by decide),dP];rfl
 have hx:=(A.W.uz A.a1 e1 (by decide) (by decide)).1 hx;subst hx;refine⟨_,(A.W.uz A.a2 e2 (by simp[TA.kind]) (by simp[TA.kind])).2 rfl,.inr ⟨by simp[tA1,TA.kind],rfl,.inr ?_⟩⟩;unfold iM;rw[if_pos (show tA1.kind=5 from rfl)];intro p hp;have hp:p=([97],aN (.mk 7 [] [] [.mk 1 [] [] [],.mk 2 [] [] []])):=by simpa[TA.names,TA.l]using hp
 subst hp;exact⟨by decide,A.ii⟩
theorem Yy {e:dL} {C:List TA} {by_:List (Bytes×TA)} (W:iW by_ e C) {loose:Bool} {a b u v:TA} (ha:GC' C a) (hb:GC' C b) (hu:aN a=u) (hv:aN b=v) (k1:u.kind≠7) (k2:u.kind≠8) (k3:v.kind≠7) (k4:v.kind≠8) (hne:u.kind≠v.kind)
  (h4:(u.kind≠4∧v.kind≠4)∨loose=false):¬LE (GC' C) (hdE e) loose a b:=fun h=>by
 obtain⟨y,hy,hu'⟩:=h.out.2.2 u ((W.uz ha hu k1 k2).2 rfl);have hy:=(W.uz hb hv k3 k4).1 hy;subst hy;rcases hu' with⟨h1,h2⟩|⟨_,h2,_⟩
 ·rcases h4 with⟨h4,h5⟩|h4
  ·rcases h1 with h1|h1
   ·exact h4 h1
   ·exact h5 h1
  ·subst h4
   simp only[Bool.false_or,beq_iff_eq]at h2;exact hne h2
 ·exact hne h2
theorem qI.s2 {e:dL} {C:List TA} (A:qI e C):LE (GC' C) (hdE e) true (.mk 4 [] [] []) (.mk 1 [] [] []):=by
 refine LE.fold A.d A.i fun x hx=>?_
 have hx:=(A.W.uz A.d Wy (by decide) (by decide)).1 hx;subst hx;exact⟨_,(A.W.uz A.i Kc (by decide) (by decide)).2 rfl,.inl ⟨.inl rfl,rfl⟩⟩
theorem qI.s3 {e:dL} {C:List TA} (A:qI e C):¬LE (GC' C) (hdE e) false (.mk 4 [] [] []) (.mk 1 [] [] []):=
 Yy A.W A.d A.i Wy Kc (by decide) (by decide) (by decide) (by decide) (by decide) (.inr rfl)
theorem qI.s4 {e:dL} {C:List TA} (A:qI e C):¬LE (GC' C) (hdE e) true (.mk 1 [] [] []) (.mk 2 [] [] []):=
 Yy A.W A.i A.b Kc Zc (by decide) (by decide) (by decide) (by decide) (by decide) (.inl ⟨by decide,by decide⟩)
open Classical in
theorem LB (F:NP T):Pure T.L 161 [] (.bool true):=by
 have hty:∀(s:Bytes) (t:TA),s.length≤100→gJ s=(t,true)→Pure T.L 172 [.str s] t.av:=fun s t hs h=>by
  have:=PW F s (by omega);rw[h]at this;exact this
 have t1:=hty _ _ (by decide) YT;have t2:=hty _ _ (by decide) typ_a;have t3:=hty _ _ (by decide) VL;have t4:=hty _ _ (by decide) VK;have t5:=hty _ _ (by decide) RU;refine Pure.run fK (.bool _) (aG F.XV (by simp[Vf]) ?_);conv=>whnf
 refine((LM F.tozL [] (by simp) (fun p hp=>by cases hp) (fun p hp=>by cases hp) (fun p hp=>by cases hp)).E5 (args:=[.lst [] .nil]) ⟨Weak.tok _ _,trivial⟩).mono fun r H' ⟨e,hok,e1,e2⟩=>?_
 subst e1 e2;obtain⟨C,A⟩:=Yr hok;have r1:=A.W.sub F.tooN A.a1 A.a2;rw[decide_eq_true A.s1]at r1;have r2:=A.W.fits F.tooN A.d A.i;rw[decide_eq_true A.s2]at r2;have r3:=A.W.sub F.tooN A.d A.i;rw[decide_eq_false A.s3]at r3;have r4:=A.W.fits F.tooN A.i A.b;rw[decide_eq_false A.s4]at r4;have hl:∀a b:TA,∀x∈[a.av,b.av],Low 3 x:=fun a b=>gq.at ⟨aQ _ _,aQ _ _,trivial⟩
 conv=>whnf
 refine t1.to ?_;conv=>whnf
 refine t2.to ?_;conv=>whnf
 refine r1.to (hl _ _) (.bool _) [] (List.append_nil _).symm ?_;conv=>whnf
 refine t3.to ?_;conv=>whnf
 refine t4.to ?_;conv=>whnf
 refine r2.to (hl _ _) (.bool _) [] (List.append_nil _).symm ?_;conv=>whnf
 refine t3.to ?_;conv=>whnf
 refine t4.to ?_;conv=>whnf
 refine r3.to (hl _ _) (.bool _) [] (List.append_nil _).symm ?_;conv=>whnf
 refine t4.to ?_;conv=>whnf
 refine t5.to ?_;conv=>whnf
 refine r4.to (hl _ _) (.bool _) [] (List.append_nil _).symm ?_;conv=>whnf
 exact aH (Weak.refl _)
end Go.Ag
/- Expressions that are read are small. -/
namespace Go.Ag
open Go
mutual
def EA.small :EA→Prop
 |.mk _ _ _ _ _ l _=>l.length≤2^34∧EA.smalls l
def EA.smalls :List EA→Prop
 |[]=>True
 |x::l=>x.small∧EA.smalls l
end
theorem Mj {a:List EA} {x:EA} (h:EA.smalls a) (hx:x.small):EA.smalls (a ++[x]):=by
 induction a with
 |nil=>exact⟨hx,trivial⟩
 |cons y a ih=>exact⟨h.1,ih h.2⟩
theorem fF :zeroE.small:=⟨by simp,trivial⟩
theorem CV (k p:Int) (nm:Bytes) (m:Int) (ns:List Bytes) (ts:List TA):(EA.mk k p nm m ns [] ts).small:=⟨by simp,trivial⟩
theorem Mk {k p:Int} {nm:Bytes} {m:Int} {ns:List Bytes} {ts:List TA} {a:EA} (h:a.small):(EA.mk k p nm m ns [a] ts).small:=⟨by simp,h,trivial⟩
theorem R9 {k p:Int} {nm:Bytes} {m:Int} {ns:List Bytes} {ts:List TA} {a b:EA} (h:a.small) (h':b.small):(EA.mk k p nm m ns [a,b] ts).small:=⟨by simp,h,h',trivial⟩
theorem YW {k p:Int} {nm:Bytes} {m:Int} {ns:List Bytes} {ts:List TA} {a b c:EA} (h:a.small) (h':b.small) (h'':c.small):(EA.mk k p nm m ns [a,b,c] ts).small:=⟨by simp,h,h',h'',trivial⟩
structure SmEx (n:Nat):Prop where
 expr:∀(d:Nat) (s:RS),s.ok→(bZ n d s).1.small
 fn:∀(d:Nat) (a:Int) (p:dA×RS),p.2.ok→(BO n d a p).1.small
 lt:∀(d:Nat) (a:Int) (p:dA×RS),p.2.ok→(BM n d a p).1.small
 ie:∀(d:Nat) (a:Int) (s:RS),s.ok→(ifR n d a s).1.small
 el:∀(d:Nat) (a:Int) (x:EA) (q:EA×RS),q.2.ok→x.small→q.1.small→(uH n d a x q).1.small
 post:∀(d:Nat) (x:EA) (s:RS),s.ok→x.small→(mg n d x s).1.small
 basic:∀(d:Nat) (s:RS),s.ok→(fD n d s).1.small
 as_:∀(d:Nat) (a:Int) (q:EA×RS),q.2.ok→q.1.small→(asR n d a q).1.small
 fields:∀(d:Nat) (a:Int) (names:List Bytes) (l:List EA) (s:RS),s.ok→EA.smalls l→l.length+s.rem≤2^34→(fB n d a names l s).1.small
theorem Sb :∀n:Nat,SmEx n:=by
 intro n
 induction n with
 |zero=>exact⟨fun d s h=>by unfold bZ;exact fF,fun d a p h=>by unfold BO;exact fF,fun d a p h=>by unfold BM;exact fF,fun d a s h=>by unfold ifR;exact fF,fun d a x q h _ _=>by unfold uH;exact fF,fun d x s h hx=>by unfold mg;exact hx,fun d s h=>by unfold fD;exact fF,fun d a q h _=>by unfold asR;exact fF,fun d a ns l s h _ _=>by unfold fB;exact fF⟩
 |succ n ih=>
  have le:=fT n;have ty:=fun(d:Nat) (s:RS) (h:s.ok)=>h.of ((bN n).1 d s h)
  have tk:=fun(s:RS) (h:s.ok) (w:Bytes)=>h.of (aL h w)
  have nm:=fun(s:RS) (h:s.ok)=>h.of (bS h)
  have ex:=fun(d:Nat) (s:RS) (h:s.ok)=>h.of (le.expr d s h)
  refine⟨fun d s h=>?_,fun d a p h=>?_,fun d a p h=>?_,fun d a s h=>?_,fun d a x q h hx hq=>?_,fun d x s h hx=>?_,fun d s h=>?_,fun d a q h hq=>?_,fun d a ns l s h hl hll=>?_⟩
  ·have ho:=h.of (OV (d:=d) h)
   unfold bZ;generalize jX d s=s1 at ho⊢;split
   ·exact fF
   ·split
    ·exact ih.fn _ _ _ (nm _ (tk _ (tk _ ho _) _))
    ·split
     ·exact ih.lt _ _ _ (nm _ (tk _ ho _))
     ·split
      ·exact ih.ie _ _ _ (tk _ ho _)
      ·exact ih.post _ _ _ (ho.of (le.basic d s1 ho)) (ih.basic d s1 ho)
  ·unfold BO
   split
   ·exact fF
   ·split
    ·exact fF
    ·exact Mk (ih.expr _ _ (tk _ (ty _ _ (tk _ h _)) _))
  ·unfold BM
   exact R9 (ih.expr _ _ (tk _ h _)) (ih.expr _ _ (tk _ (ex _ _ (tk _ h _)) _))
  ·unfold ifR
   exact ih.el _ _ _ _ (ex _ _ (tk _ (ex _ _ h) _)) (ih.expr _ _ h) (ih.expr _ _ (tk _ (ex _ _ h) _))
  ·unfold uH
   exact YW hx hq (ih.expr _ _ (tk _ h _))
  ·unfold mg
   split
   ·exact ih.post _ _ _ (tk _ (ex _ _ (tk _ h _)) _) (R9 hx (ih.expr _ _ (tk _ h _)))
   ·split
    ·exact ih.post _ _ _ (nm _ (tk _ h _)) (Mk hx)
    ·exact hx
  ·unfold fD
   split
   ·exact fF
   ·split
    ·exact CV _ _ _ _ _ _
    ·split
     ·exact CV _ _ _ _ _ _
     ·split
      ·exact CV _ _ _ _ _ _
      ·split
       ·exact CV _ _ _ _ _ _
       ·split
        ·exact CV _ _ _ _ _ _
        ·split
         ·refine ih.fields _ _ _ _ _ (tk _ h _) trivial ?_
          have h1:=(aL h kLb).rem;have h2:=h.len;unfold RS.rem at*;simp;omega
         ·split
          ·exact fF
          ·exact ih.as_ _ _ _ (ex _ _ (tk _ h _)) (ih.expr _ _ (tk _ h _))
  ·rw[asR]
   split
   ·exact Mk hq
   ·exact hq
  ·unfold fB
   split
   ·split
    ·exact fF
    ·rename_i hb
     have hb:(aD (aK s).2 kEq).bad=false:=by simpa using hb
     have hr:=tC h kEq hb;have ok2:=tk _ (nm _ h) kEq;split
     ·have k1:=h.of (lK h kEq hb)
      have k2:=ex (d+1) _ k1;refine ih.fields _ _ _ _ _ (k2.of (gU k2)) hl ?_;have e1:=(gU k2).rem;have e2:=(le.expr (d+1) _ k1).rem;have e3:(gu (aD (aK s).2 kEq) (aK s).1).rem=(aD (aK s).2 kEq).rem:=rfl;omega
     ·have k2:=ex (d+1) _ ok2
      refine ih.fields _ _ _ _ _ (k2.of (gU k2)) (Mj hl (ih.expr _ _ ok2)) ?_;have e1:=(gU k2).rem;have e2:=(le.expr (d+1) _ ok2).rem;simp;omega
   ·exact⟨by omega,hl⟩
def dV.small (d:dV):Prop:=d.es.length≤1∧EA.smalls d.es
theorem Nu {n:Nat} {s:RS} (hs:s.ok):(fH n s).1.small:=by
 have ty:=fun(d:Nat) (s:RS) (h:s.ok)=>h.of ((bN n).1 d s h)
 have tk:=fun(s:RS) (h:s.ok) (w:Bytes)=>h.of (aL h w)
 have nm:=fun(s:RS) (h:s.ok)=>h.of (bS h)
 have hE:∀(t:dA) (ts:List TA) (s:RS),s.ok→(uI n t ts s).1.small:=fun t ts s hs=>⟨by simp[uI],(Sb n).expr _ _ (tk _ hs _),trivial⟩
 unfold fH;split
 ·exact⟨by simp[K9],trivial⟩
 ·split
  ·exact⟨by simp[declT],trivial⟩
  ·split
   ·unfold BA
    split
    ·exact hE _ _ _ (ty _ _ (tk _ (nm _ (tk _ hs _)) _))
    ·exact hE _ _ _ (nm _ (tk _ hs _))
   ·exact⟨by simp,trivial⟩
theorem nO (n:Nat):∀(k:Nat) (l:List dV) (s:RS),s.okN k→s.bad=false→s.rem≤k→(∀d∈l,d.small)→(∀d∈(jF n k l s).1,d.small)∧(jF n k l s).1.length≤l.length+k
 |0,l,s,h,hb,hr,hl=>⟨hl,by simp[jF]⟩
 |k+1,l,s,h,hb,hr,hl=>by
  rw[jF];split
  ·rename_i hk
   have hrr:=vY (n:=n) h hb (by simpa using hk);split
   ·rename_i hb2
    obtain⟨k1,k2,k3⟩:=hrr.2 hb2;have:=nO n k l _ k1 k3 (by omega) hl;exact⟨this.1,by omega⟩
   ·rename_i hb2
    obtain⟨k1,k2⟩:=hrr.1 (by simpa using hb2)
    have:=nO n k (l ++[(fH n s).1]) _ k1 (by simpa using hb2) (by omega) (fun d hd=>by
     rcases List.mem_append.1 hd with hd|hd
     ·exact hl d hd
     ·simp only[List.mem_singleton]at hd;subst hd;exact Nu h.ok)
    exact⟨this.1,by have:=this.2;simp at this;omega⟩
  ·exact⟨hl,by simp⟩
theorem JY (src:Bytes) (hs:src.length≤2^32):(∀d∈(gH src).1,d.small)∧(gH src).1.length≤2^33:=by
 obtain⟨hok,hlen,hdl⟩:=mQ src hs;have Aj:(bE src).rem≤src.length+1:=by unfold RS.rem;omega
 have hp:(bE src).pot≤(bE src).diags.length+2*(bE src).toks.length+1:=by
  unfold RS.pot;split<;>omega
 have:=nO (oq src) (bE src).rem [] (bE src) ⟨hok.lt,hok.more,hok.len,hok.txt,by omega,hok.named,hok.num⟩ rfl (Nat.le_refl _) (fun d hd=>by cases hd);exact⟨this.1,by have:=this.2;simp at this;unfold gH;omega⟩
end Go.Ag
/- Declarations of a source: types of its definitions are good and small; cupellaw08.Small, Made. -/
namespace Go.Ag
open Go
variable {T : Tab} {L : Lnk}
def LQ (B:Nat) (d:dV):Prop:=d.kind=2→jB d.name∧∃t,d.ts=[t]∧GT t∧wtT t≤B
theorem Rl {m n:Nat} {s:RS} (hs:s.ok) (hg:yu m s) (hb:s.bad=false) (hf:6*s.rem+8≤n) (h:(fH n s).2.bad=false):LQ (48+(80+m)*s.toks.length) (fH n s).1:=by
 have E:∀(t:dA) (ts:List TA) (s:RS),(uI n t ts s).1.kind≠2:=fun t ts s=>by show(3:Int)≠2;decide
 unfold fH at h⊢;split
 ·exact fun h2=>absurd (show(1:Int)=2 from h2) (by decide)
 ·rename_i h0
  rw[if_neg h0]at h;split
  ·rename_i h1
   rw[if_pos h1]at h;intro _;have k1:=aL hs nI;have hs1:=hs.of k1;unfold declT at h⊢;dsimp only at h⊢;have hb4:=(ji h).1
   have hb3:(aD (aK (aD s nI)).2 kEq).bad=false:=by
    cases hx:(aD (aK (aD s nI)).2 kEq).bad
    ·rfl
    ·rw[(sV n).1 _ _ hx,hx]at hb4;cases hb4
   obtain⟨hb2,_,_⟩:=ji hb3;obtain⟨hb1,hk1,hnr⟩:=qo hb2;have k2:=bS hs1;have hs2:=hs1.of k2;have k3:=aL hs2 kEq;have hs3:=hs2.of k3;have r1:=k1.rem;have r2:=k2.rem;have r3:=k3.rem;have hg1:=hg.le k1;have hg3:=(hg1.le k2).le k3;have ht:=(Gc m n).typ 1 _ hs3 hg3 (by omega);have hle:=(bN n).1 1 _ hs3;refine⟨?_,_,rfl,ht.1 hb4,Nat.le_trans ht.2 ?_⟩
   ·rw[hnr]
    exact(NZ hs1 hg1).1 hk1
   ·have h1:=hle.lt
    rw[(k1.trans (k2.trans k3)).toks]at h1;exact Nat.add_le_add_left (Bl (by omega)) _
  ·rename_i h1
   split
   ·unfold BA
    split
    ·exact fun h2=>absurd h2 (E _ _ _)
    ·exact fun h2=>absurd h2 (E _ _ _)
   ·exact fun h2=>absurd (show(0:Int)=2 from h2) (by decide)
theorem tX (m n B:Nat) (ts:List dA) (hB:∀s:RS,s.toks=ts→s.ok→yu m s→s.bad=false→6*s.rem+8≤n→(fH n s).2.bad=false→LQ B (fH n s).1):∀(k:Nat) (l:List dV) (s:RS),s.toks=ts→s.okN k→yu m s→s.bad=false→6*s.rem+8≤n→s.rem≤k→(∀d∈l,LQ B d)→∀d∈(jF n k l s).1,LQ B d
 |0,l,s,e,h,hg,hb,hf,hr,hl=>hl
 |k+1,l,s,e,h,hg,hb,hf,hr,hl=>by
  rw[jF];split
  ·rename_i hk
   have hrr:=vY (n:=n) h hb (by simpa using hk);have hle:=Ch (n:=n) h.ok;split
   ·rename_i hb2
    obtain⟨k1,k2,k3⟩:=hrr.2 hb2;have hgood:({(fH n s).2 with bad:=false}:RS).ok:=((h.of hle).good).ok
    have ht:(jl (oM (fH n s).2)).toks=s.toks:=by
     have e1:=(BR (fH n s).2.rem _ hgood);have e2:=Hl (hgood.of e1);exact(e2.toks.trans e1.toks).trans hle.toks
    exact tX m n B ts hB k l _ (ht.trans e) k1 (by unfold yu;rw[ht];exact hg) k3 (by omega) (by omega) hl
   ·rename_i hb2
    have hb2:(fH n s).2.bad=false:=by simpa using hb2
    obtain⟨k1,k2⟩:=hrr.1 hb2;refine tX m n B ts hB k _ _ (hle.toks.trans e) k1 (hg.le hle) hb2 (by omega) (by omega) fun d hd=>?_
    rcases List.mem_append.1 hd with hd|hd
    ·exact hl d hd
    ·simp only[List.mem_singleton]at hd;subst hd;exact hB s e h.ok hg hb hf hb2
  ·exact hl
theorem Dk (src:Bytes) (hs:src.length≤2^31):∀d∈(gH src).1,LQ (48+(src.length+82)*(src.length+1)) d:=by
 obtain⟨hok,hlen,hdl⟩:=mQ src (by omega);have Aj:(bE src).rem≤src.length+1:=by unfold RS.rem;omega
 have hp:(bE src).pot≤(bE src).diags.length+2*(bE src).toks.length+1:=by
  unfold RS.pot;split<;>omega
 refine tX (src.length+2) (oq src) _ (bE src).toks (fun s e h1 h2 h3 h4 h5 h6=>?_) (bE src).rem [] (bE src) rfl ⟨hok.lt,hok.more,hok.len,hok.txt,by omega,hok.named,hok.num⟩ (CP src) rfl (Nat.le_refl _) (Nat.le_refl _) (fun d hd=>by cases hd);have hd:=Rl h1 h2 h3 h4 h5;rw[e]at hd;refine hd h6|>fun⟨a,t,b,c,d⟩=>⟨a,t,b,c,Nat.le_trans d ?_⟩
 have h2:=Bl (c:=src.length+82) hlen;have h3:80+(src.length+2)=src.length+82:=by omega
 rw[h3];omega
end Go.Ag
/- Package cupellaw08: Small, Made. -/
namespace Go.Ag
open Go
variable {T : Tab} {L : Lnk}
structure zI (T:Tab):Prop extends zL T,zH T,zG T,Vz T where
 TH:T.has 147 Po
 X4:T.has 148 Vk
 KL:T.has 190 Pj
def OU (d:dV):Bytes×TA:=(d.name,d.ts.headD mJ)
def kL (l:List dV):List (Bytes×TA):=(l.filter (·.kind==2)).map OU
theorem K6 (l:List dV) (j:Nat) (h:j<l.length):kL (l.take (j+1))=if l[j].kind==2 then kL (l.take j) ++[OU l[j]]else kL (l.take j):=by
 rw[List.take_succ_eq_append_getElem h];unfold kL;rw[List.filter_append];cases hk:l[j].kind==2
 ·rw[if_neg (by simp),show [l[j]].filter (·.kind==2)=[]from by simp[List.filter,hk],List.append_nil]
 ·rw[if_pos rfl,show [l[j]].filter (·.kind==2)=[l[j]]from by simp[List.filter,hk],List.map_append]
  rfl
theorem Jy (l:List (Bytes×TA)):dB 5 (fV l):=fun x hx=>by
 obtain⟨⟨nm,⟨k,tn,ns,tl⟩⟩,_,rfl⟩:=List.mem_map.1 hx;exact⟨rfl,rfl⟩
theorem wL (l:List (Bytes×TA)):(fV l).length=l.length:=by simp[fV]
theorem Nt (l:List (Bytes×TA)) (p:Bytes×TA):fV (l ++[p])=fV l ++[wY p]:=by simp[fV]
def jk (l:List (Bytes×TA)):Nat:=(l.map fun p=>szT p.2).sum
theorem NK (F:zI T) (l:List (Bytes×TA)) (hl:l.length≤2^30) (hw:∀p∈l,wtT p.2≤2^30) (tk:Tok) (htk:nC 0 tk):Pure T.L 148 [.lst (fV l) tk] (.bool (decide (jk l≤60))):=by
 refine Pure.run (dD (.lst _ _ htk (sK 0 l))) (.bool _) (aG F.X4 (by simp[Vk]) ?_)
 have hsum:∀j,j≤l.length→jk (l.take j)≤j*2^30:=fun j=>by
  induction j with
  |zero=>intro _;simp[jk]
  |succ j ih=>
   intro h;have h1:=ih (by omega);rw[List.take_succ_eq_append_getElem (by omega)];unfold jk at h1⊢;rw[List.map_append,List.sum_append_nat,List.map_singleton,List.sum_singleton];have h2:=hw _ (List.getElem_mem (show j<l.length by omega));have h3:=Ck _ l[j].2 (Nat.le_refl _);unfold szT at*;omega
 conv=>whnf
 intro I hI hG
 have key:∀(d j:Nat) (e:Env),l.length-j=d→j≤l.length→I (gB e [(0,.lst (fV l) tk),(3,.int .i64 ((jk (l.take j):Nat):Int)),(4,.int .i64 j)]) []:=by
  intro d
  induction d with
  |zero=>
   intro j e hd hj;have hjl:j=l.length:=by omega
   apply hI;conv=>whnf
   rw[show decide (((j:Nat):Int)<(((fV l).length:Nat):Int))=false from by rw[wL,hjl];simp];conv=>whnf
   rw[hjl,List.take_length,show decide (((jk l:Nat):Int)≤60)=decide (jk l≤60)from by
    by_cases h:jk l≤60
    ·rw[decide_eq_true h,decide_eq_true (by omega)]
    ·rw[decide_eq_false h,decide_eq_false (by omega)]]
   exact aH (Weak.refl _)
  |succ d ihd=>
   intro j e hd hj;have hjl:j<l.length:=by omega
   have hget:=K7 hjl;have hnext:=fun e=>ihd (j+1) e (by omega) hjl
   have hs1:=hsum j hj;have hs2:=hsum (j+1) hjl
   have hst:jk (l.take (j+1))=jk (l.take j)+szT l[j].2:=by
    rw[List.take_succ_eq_append_getElem hjl];unfold jk;rw[List.map_append,List.sum_append_nat,List.map_singleton,List.sum_singleton]
   rw[hst]at hnext hs2;have hwj:=hw _ (List.getElem_mem hjl);have hc:=uU F.KL _ l[j].2 (Nat.lt_succ_self _) (by omega);have hb:(j+1)*2^30≤2^30*2^30:=Nat.mul_le_mul_right _ (by omega);generalize l[j]=v at hget hc hnext hs2 hwj;generalize jk (l.take j)=m at hnext hs2 hs1⊢;apply hI;obtain⟨nm,⟨vk,vn,vs,vl⟩⟩:=v;conv=>whnf
   rw[show decide (((j:Nat):Int)<(((fV l).length:Nat):Int))=true from by rw[wL];simp;omega];conv=>whnf
   refine step_elem (Int.natCast_nonneg _) hget rfl ?_;conv=>whnf
   refine⟨Nat.le_of_ble_eq_true rfl,?_⟩;conv=>whnf
   refine hc.to ?_;conv=>whnf
   refine inv_of [(0,.lst (fV l) tk),(3,.int .i64 ((m+szT (.mk vk vn vs vl):Nat):Int)),(4,.int .i64 (j+1:Nat))] ⟨rfl,?_,add1 (by omega),trivial⟩ (hnext _);show au.int .i64 (IntKind.i64.wrap (((m:Nat):Int)+((szT (.mk vk vn vs vl):Nat):Int)))=_;rw[IntWalk.i64_in _ (by dsimp only at hs2;omega)]
   congr 1
 exact inv_of [(0,.lst (fV l) tk),(3,.int .i64 0),(4,.int .i64 0)] ⟨rfl,rfl,rfl,trivial⟩ (key l.length 0 _ rfl (Nat.zero_le _))
theorem Yg {l:List dV} {i:Nat} (h:i<l.length):(l.map dV.av)[((i:Nat):Int).toNat]?=some l[i].av:=by
 simp[List.getElem?_map,List.getElem?_eq_getElem h]
def gK (src:Bytes):List (Bytes×TA):=kL (gH src).1
theorem tH (src:Bytes) (hs:src.length≤600):∀p∈gK src,jB p.1∧GT p.2∧wtT p.2≤2^19:=fun p hp=>by
 unfold gK kL at hp;obtain⟨d,hd,rfl⟩:=List.mem_map.1 hp;obtain⟨h1,h2⟩:=List.mem_filter.1 hd;obtain⟨hn,t,ht,hg,hw⟩:=Dk src (by omega) d h1 (by simpa using h2);unfold OU;rw[ht];have:(src.length+82)*(src.length+1)≤682*601:=Nat.mul_le_mul (by omega) (by omega);exact⟨hn,hg,Nat.le_trans hw (by omega)⟩
theorem AU (src:Bytes) (hs:src.length≤600):(gK src).length≤2^30:=by
 unfold gK kL;rw[List.length_map];refine Nat.le_trans (List.length_filter_le _ _) ?_;obtain⟨hok,hlen,hdl⟩:=mQ src (by omega);have Aj:(bE src).rem≤src.length+1:=by unfold RS.rem;omega
 have hp:(bE src).pot≤(bE src).diags.length+2*(bE src).toks.length+1:=by
  unfold RS.pot;split<;>omega
 have:=(nO (oq src) (bE src).rem [] (bE src) ⟨hok.lt,hok.more,hok.len,hok.txt,by omega,hok.named,hok.num⟩ rfl (Nat.le_refl _) (fun d hd=>by cases hd)).2;unfold gH;simp at this;omega
theorem FT :∀{l:List (Bytes×TA)} {p:Bytes×TA},p∈jA l→∃q∈l,p=(q.1,aN q.2):=fun{l p}=>by
 have key:∀(l B:List (Bytes×TA)),p∈l.foldl ou B→p∈B∨∃q∈l,p=(q.1,aN q.2):=fun l=>by
  induction l with
  |nil=>exact fun B h=>.inl h
  |cons q l ih=>
   intro B h;rcases ih _ h with h|⟨r,hr,e⟩
   ·unfold ou at h
    split at h
    ·exact .inl h
    ·rcases List.mem_append.1 h with h|h
     ·exact .inl h
     ·rw[List.mem_singleton]at h;exact .inr ⟨q,by simp,h⟩
   ·exact .inr ⟨r,by simp[hr],e⟩
 intro h;rcases key l [] h with h|h
 ·cases h
 ·exact h
theorem RG (F:zI T) (src:Bytes) (hs:src.length≤600):aC T.L 147 [.str src] [] fun r H'=>∃e o0 o1,lq (jA (gK src)) e∧bI 0 o0∧bI 0 o1∧r=.ret (.tup [.ptr 4 0,.lst (fV (gK src)) .none,.bool (decide ((gK src).length≤8))])∧
  H'=[o0,o1,.map (cu e.by_ 0) e.by_.length,.map (gF e.empty 0) e.empty.length,.cells [.map 2,.map 3] 234]:=by
 have hD:=tH src hs;have hDl:=AU src hs;have hP:=NM F.tozH src (by omega);have hP5:=H6 F.toVz src (by omega);have hG:=Dk src (by omega);have hPl:(gH src).1.length≤2^33:=(JY src (by omega)).2
 have hnew:=ZR F.tozL (gK src) hDl (fun p hp=>H8 (hD p hp).2.1 (by have:=(hD p hp).2.2;omega)) (fun p hp=>by
  obtain⟨q,hq,rfl⟩:=FT hp;have h1:=(hD q hq).2.2;have h2:=lI q.2;dsimp only
  omega)
 unfold gK at*;generalize (gH src).2.diags.map bO.av=DG at hP hP5;generalize (gH src).1=l at*;refine aC.Gp 2 ?_
 refine aC.cut (aC.mono (Q:=fun r H'=>∃e o0 o1 tk J,lq (jA (kL l)) e∧bI 0 o0∧bI 0 o1∧r=.ret (.tup [.ptr 4 0,.lst (fV (kL l)) tk,.bool (decide ((kL l).length≤8))])∧
  H'=[o0,o1,.map (cu e.by_ 0) e.by_.length,.map (gF e.empty 0) e.empty.length,.cells [.map 2,.map 3] 234] ++J) ?_ fun r H' ⟨e,o0,o1,tk,J,e1,h0,h1,e2,e3⟩=>⟨.ret (.tup [.ptr 4 0,.lst (fV (kL l)) .none,.bool (decide ((kL l).length≤8))]),[o0,o1,.map (cu e.by_ 0) e.by_.length,.map (gF e.empty 0) e.empty.length,.cells [.map 2,.map 3] 234],J,e3,by rw[e2];exact Weak.tup ⟨Weak.refl _,Weak.tok _ _,Weak.refl _,trivial⟩,.tup _ (gq.at ⟨.ptr _ _ (show 4<5 by decide),.lst _ _ trivial (sK _ _),.bool _,trivial⟩),Nat.le_of_ble_eq_true rfl,
   eX.at ⟨aI (Nat.zero_le _) h0,aI (Nat.zero_le _) h1,dY 5 _ _,fA 5 _ _,dH ⟨.map _ (show 2<5 by decide),.map _ (show 3<5 by decide),trivial⟩,trivial⟩,e,o0,o1,e1,h0,h1,rfl,rfl⟩)
 refine aG F.TH (by simp[Po]) ?_;have h1:decide ((src.length:Int)>600)=false:=decide_eq_false (by omega);conv=>whnf
 rw[h1];conv=>whnf
 refine hP.to ?_;conv=>whnf
 refine hP5.to ?_;conv=>whnf
 intro I hI hGC
 have key:∀(d j:Nat) (XS:List au) (e:Env),l.length-j=d→j≤l.length→XS=fV (kL (l.take j))→XS.length≤j→
   I (gB e [(5,.lst (l.map dV.av) .none),(7,.lst (l.map dV.av) .none),(9,.lst XS (bK XS.length 0)),(10,.lst XS (bK XS.length 1)),(11,.int .i64 j)]) [bC XS.length 182,bC XS.length 244]:=by
  intro d
  induction d with
  |zero=>
   intro j XS e hd hj hX hXl;have hjl:j=l.length:=by omega
   rw[hjl,List.take_length]at hX;have hlen:XS.length=(kL l).length:=by rw[hX,wL]
   apply hI;conv=>whnf
   rw[show decide (((j:Nat):Int)<(((l.map dV.av).length:Nat):Int))=false from by rw[List.length_map,hjl];simp];conv=>whnf
   rw[hX];refine(hnew _ _).mono fun r H' ⟨e,hok,e1,e2⟩=>?_
   subst e1 e2;conv=>whnf
   rw[show decide ((((fV (kL l)).length:Nat):Int)≤8)=decide ((kL l).length≤8)from by
    rw[wL]
    by_cases h:(kL l).length≤8
    ·rw[decide_eq_true h,decide_eq_true (by omega)]
    ·rw[decide_eq_false h,decide_eq_false (by omega)]]
   exact⟨e,_,_,_,[],hok,bG _ _ _,bG _ _ _,rfl,rfl⟩
  |succ d ihd=>
   intro j XS e hd hj hX hXl;have hjl:j<l.length:=by omega
   have hnext:=fun YS e h1 h2=>ihd (j+1) YS e (by omega) hjl h1 h2
   rw[K6 l j hjl]at hnext;have hget:=Yg hjl;have hg:=hG _ (List.getElem_mem hjl);generalize l[j]=v at hget hnext hg;obtain⟨vk,vp,vn,vts,ves⟩:=v;apply hI;conv=>whnf
   rw[show decide (((j:Nat):Int)<(((l.map dV.av).length:Nat):Int))=true from by rw[List.length_map];simp;omega];conv=>whnf
   refine step_elem (Int.natCast_nonneg _) hget rfl ?_;conv=>whnf
   refine⟨Nat.zero_le _,?_⟩;conv=>whnf
   dsimp only at hnext;cases hk:(vk==2)
   ·rw[hk,if_neg (by simp)]at hnext
    conv=>whnf
    exact inv_of [(5,.lst (l.map dV.av) .none),(7,.lst (l.map dV.av) .none),(9,.lst XS (bK XS.length 0)),(10,.lst XS (bK XS.length 1)),(11,.int .i64 (j+1:Nat))] ⟨rfl,rfl,rfl,rfl,add1 (show j+1<9223372036854775808 by omega),trivial⟩ (hnext XS _ hX (by omega))
   ·obtain⟨hn,t,ht,_,_⟩:=hg (by simpa using hk)
    dsimp only at ht;subst ht;rw[hk,if_pos rfl]at hnext;have hdef:OU ⟨vk,vp,vn,[t],ves⟩=(vn,t):=rfl;rw[hdef,Nt,←hX]at hnext;have sX:dB 5 XS:=by rw[hX];exact Jy _
    obtain⟨tk,tn,tns,tl⟩:=t
    have app0:∀{H:Heap} {K:au→Heap→Prop} {tk0:Tok},H[0]?=some (bC XS.length 182)→K (.lst (XS ++[wY (vn,.mk tk tn tns tl)]) (bK (XS ++[wY (vn,.mk tk tn tns tl)]).length 0)) (H.set 0 (bC (XS ++[wY (vn,.mk tk tn tns tl)]).length 182))→lH 5 88 182 (.lst XS (bK XS.length 0)) (.lst [wY (vn,.mk tk tn tns tl)] tk0) H K:=
     fun h1 h2=>dS sX (bP rfl) (by simp;omega) (by simp;omega) (by simp) h1 h2
    have app1:∀{H:Heap} {K:au→Heap→Prop} {tk0:Tok},H[1]?=some (bC XS.length 244)→K (.lst (XS ++[wY (vn,.mk tk tn tns tl)]) (bK (XS ++[wY (vn,.mk tk tn tns tl)]).length 1)) (H.set 1 (bC (XS ++[wY (vn,.mk tk tn tns tl)]).length 244))→lH 5 88 244 (.lst XS (bK XS.length 1)) (.lst [wY (vn,.mk tk tn tns tl)] tk0) H K:=
     fun h1 h2=>dS sX (bP rfl) (by simp;omega) (by simp;omega) (by simp) h1 h2
    have hnext:=fun e=>hnext (XS ++[wY (vn,.mk tk tn tns tl)]) e rfl (by simp;omega)
    clear hX;conv=>whnf
    refine step_elem (Int.natCast_nonneg _) hget rfl ?_;conv=>whnf
    refine⟨Nat.le_of_ble_eq_true rfl,?_⟩;conv=>whnf
    refine step_elem (Int.natCast_nonneg _) hget rfl ?_;conv=>whnf
    refine⟨Nat.le_of_ble_eq_true rfl,?_⟩;conv=>whnf
    refine⟨Int.le_refl 0,?_⟩;conv=>whnf
    refine⟨rfl,?_⟩;conv=>whnf
    refine app0 rfl ?_;conv=>whnf
    refine step_elem (Int.natCast_nonneg _) hget rfl ?_;conv=>whnf
    refine⟨Nat.le_of_ble_eq_true rfl,?_⟩;conv=>whnf
    refine step_elem (Int.natCast_nonneg _) hget rfl ?_;conv=>whnf
    refine⟨Nat.le_of_ble_eq_true rfl,?_⟩;conv=>whnf
    refine⟨Int.le_refl 0,?_⟩;conv=>whnf
    refine⟨rfl,?_⟩;conv=>whnf
    refine app1 rfl ?_;conv=>whnf
    exact inv_of [(5,.lst (l.map dV.av) .none),(7,.lst (l.map dV.av) .none),(9,.lst (XS ++[wY (vn,.mk tk tn tns tl)]) (bK (XS ++[wY (vn,.mk tk tn tns tl)]).length 0)),(10,.lst (XS ++[wY (vn,.mk tk tn tns tl)]) (bK (XS ++[wY (vn,.mk tk tn tns tl)]).length 1)),(11,.int .i64 (j+1:Nat))] ⟨rfl,rfl,rfl,rfl,add1 (by omega),trivial⟩ (hnext _)
 exact inv_of [(5,.lst (l.map dV.av) .none),(7,.lst (l.map dV.av) .none),(9,.lst [] .nil),(10,.lst [] .nil),(11,.int .i64 0)] ⟨rfl,rfl,rfl,rfl,rfl,trivial⟩ (key l.length 0 [] _ rfl (Nat.zero_le _) rfl (Nat.zero_le _))
end Go.Ag
/- How many parts a type is spread to, by sizes; environments of small definitions; what a type stands for. -/
namespace Go.Ag
open Go
variable {T : Tab} {L : Lnk} {by_ : List (Bytes × TA)} {e : dL} {C : List TA}
theorem GZ (l:List TA):szL l=(l.map szT).sum:=by
 induction l with
 |nil=>rfl
 |cons t l ih=>rw[fP,List.map_cons,List.sum_cons,ih]
theorem Qb (t:TA):szL (fq t)≤szT t:=by
 obtain⟨k,nm,ns,l⟩:=t;unfold fq;split
 ·rw[oD];exact Nat.le_succ _
 ·rw[fP];exact Nat.le_refl _
theorem Mg (a b:List TA):szL (a ++b)=szL a+szL b:=by simp[GZ]
theorem VR (l:List TA):szL (aR l)≤szL l:=by
 induction l with
 |nil=>exact Nat.le_refl _
 |cons t l ih=>
  have h1:aR (t::l)=fq t ++aR l:=by unfold aR;rw[List.flatMap_cons]
  rw[h1,Mg,fP];have:=Qb t;omega
theorem Qa (l:List TA):szL (iE l)≤szL l:=by
 unfold iE;rw[GZ,List.map_map];have h1:=AQ (fun p:TA×Bytes=>szT p.1) (Ej (l9 (d9 l)));have h2:=((lX (d9 l)).map fun p:TA×Bytes=>szT p.1).sum_nat
 have h3:((d9 l).map fun p:TA×Bytes=>szT p.1).sum=szL l:=by
  unfold d9;rw[List.map_map,GZ];rfl
 have h4:((fZ (l9 (d9 l))).map (szT∘fun x=>x.1)).sum=((fZ (l9 (d9 l))).map fun p:TA×Bytes=>szT p.1).sum:=rfl;omega
theorem P9 (l:List TA):szT (mO l)≤1+szL l:=by
 rw[pG];have hf:=VR l;split
 ·rename_i t h
  have:=G5 (List.mem_of_find?_eq_some h);omega
 ·have h2:=Qa (aR l)
  unfold pY;split
  ·rename_i t h
   rw[h,fP]at h2;omega
  ·rw[oD];omega
theorem Ob :∀(n:Nat) (t:TA),wtT t≤n→szT (aN t)≤szT t
 |0,t,h=>by have:=BK t;omega
 |n+1,t,h=>by
  obtain⟨k,nm,ns,l⟩:=t
  have hl:∀m:List TA,(∀t∈m,wtT t≤n)→szL (dM m)≤szL m:=fun m=>by
   induction m with
   |nil=>intro _;exact Nat.le_refl _
   |cons t m ih=>
    intro hm;rw[dM,fP,fP];have h1:=Ob n t (hm t (by simp));have h2:=ih fun x hx=>hm x (by simp[hx])
    omega
  have h2:=hl l fun t ht=>by
   have h3:=iP ht;rw[wtT]at h;omega
  rw[aN,oD];split
  ·have:=P9 (dM l)
   omega
  ·rw[oD];omega
theorem Jl (t:TA):szT (aN t)≤szT t:=Ob _ t (Nat.le_refl _)
def jV (f:Bytes→Nat):List Bytes→Nat
 |[]=>1
 |a::l=>f a*jV f l
theorem ME {f:Bytes→Nat} {l m:List Bytes} (h:l.Perm m):jV f l=jV f m:=by
 induction h with
 |nil=>rfl
 |cons a h ih=>rw[jV,jV,ih]
 |swap a b l=>rw[jV,jV,jV,jV,←Nat.mul_assoc,←Nat.mul_assoc,Nat.mul_comm (f b)]
 |trans _ _ h1 h2=>exact h1.trans h2
theorem FC {f:Bytes→Nat} (hf:∀a,1≤f a):∀l,1≤jV f l
 |[]=>Nat.le_refl _
 |a::l=>Nat.mul_pos (hf a) (FC hf l)
theorem Fh (hE:lq by_ e) (hnd:(by_.map (·.1)).Nodup):∀n,
  (∀(P Q:List Bytes) (t:TA) (ys:List TA),(by_.map (·.1)).Perm (P ++Q)→(∀p∈P,∀r∈iV t,rH by_ (dF by_ p) r)→bA e n t=some ys→ys.length≤szT t*jV (fun p=>szT (dF by_ p)) Q)∧
  (∀(P Q:List Bytes) (l:List TA) (ys:List TA),(by_.map (·.1)).Perm (P ++Q)→(∀p∈P,∀r∈sU l,rH by_ (dF by_ p) r)→aZ e n l=some ys→ys.length≤szL l*jV (fun p=>szT (dF by_ p)) Q)
 |0=>⟨fun P Q t ys _ _ h=>(by rw[bA]at h;cases h),fun P Q l ys _ _ h=>(by rw[aZ]at h;cases h)⟩
 |n+1=>by
  obtain⟨h1,h2⟩:=Fh hE hnd n;have hpos:∀Q,1≤jV (fun p=>szT (dF by_ p)) Q:=FC fun a=>GY _
  have hone:∀(t:TA) Q,1≤szT t*jV (fun p=>szT (dF by_ p)) Q:=fun t Q=>Nat.mul_pos (GY t) (hpos Q)
  refine⟨fun P Q t ys hperm hlead h=>?_,fun P Q l ys hperm hlead h=>?_⟩
  ·obtain⟨k,nm,ns,l⟩:=t
   have h0:=hone (.mk k nm ns l) Q;rw[iV]at hlead;rw[bA]at h;split at h
   ·rename_i h8
    rw[if_pos h8]at hlead;split at h
    ·cases h;simp only[List.length_singleton];exact h0
    ·rename_i he
     have hne:¬nL by_ nm:=fun h=>he ((mF hE hnd nm).2 h)
     have hdef:(by_.find? (·.1==nm)).isSome=true:=by
      cases hd:(by_.find? (·.1==nm)).isSome
      ·exact absurd (.inl hd) hne
      ·rfl
     have hkey:=KT hdef;have hnP:nm∉P:=fun hm=>hne (.inr (hlead nm hm nm (by simp)))
     have hQ:nm∈Q:=by
      rcases List.mem_append.1 (hperm.mem_iff.1 hkey)with h|h
      ·exact absurd h hnP
      ·exact h
     rw[vS,hE.hby]at h;have hp2:(by_.map (·.1)).Perm ((nm::P) ++Q.erase nm):=hperm.trans ((List.Perm.append_left P (List.perm_cons_erase hQ)).trans List.perm_middle)
     have:=h1 (nm::P) (Q.erase nm) (dF by_ nm) ys hp2 (fun p hp r hr=>by
      rcases List.mem_cons.1 hp with rfl|hp
      ·exact .here _ _ hr
      ·exact(hlead p hp nm (by simp)).trans (.here _ _ hr)) h
     rw[ME (List.perm_cons_erase hQ),jV];refine Nat.le_trans this ?_;exact Nat.le_mul_of_pos_left _ (GY _)
   ·rename_i h8
    rw[if_neg h8]at hlead;split at h
    ·rename_i h7
     rw[if_pos h7]at hlead;have:=h2 P Q l ys hperm hlead h;refine Nat.le_trans this (Nat.mul_le_mul_right _ ?_);rw[oD];exact Nat.le_succ _
    ·cases h;simp only[List.length_singleton];exact h0
  ·cases l with
   |nil=>rw[aZ]at h;cases h;simp
   |cons t l=>
    rw[aZ]at h
    cases hx:bA e n t with
    |none=>rw[hx]at h;cases h
    |some xs=>
     cases hr:aZ e n l with
     |none=>rw[hx,hr]at h;cases h
     |some zs=>
      rw[hx,hr]at h;cases h;have k1:=h1 P Q t xs hperm (fun p hp r hr=>hlead p hp r (by rw[sU];exact List.mem_append_left _ hr)) hx;have k2:=h2 P Q l zs hperm (fun p hp r hr=>hlead p hp r (by rw[sU];exact List.mem_append_right _ hr)) hr;rw[fP,List.length_append,Nat.add_mul];exact Nat.add_le_add k1 k2
theorem x_le :∀x:Nat,4*x*7^x≤11*8^x:=fun x=>by
 by_cases h:x<8
 ·have:∀x,x<8→4*x*7^x≤11*8^x:=by decide
  exact this x h
 ·obtain⟨k,rfl⟩:∃k,x=8+k:=⟨x-8,by omega⟩
  clear h
  induction k with
  |zero=>decide
  |succ k ih=>
   rw[←Nat.add_assoc,Nat.pow_succ,Nat.pow_succ];generalize 7^(8+k)=a at ih⊢;generalize 8^(8+k)=b at ih⊢
   have h1:4*(8+k+1)*(a*7)=4*(7*(8+k+1))*a:=by
    rw[Nat.mul_comm a 7,←Nat.mul_assoc,Nat.mul_assoc 4,Nat.mul_comm (8+k+1) 7]
   have h2:4*(7*(8+k+1))*a≤4*(8*(8+k))*a:=Nat.mul_le_mul_right _ (by omega)
   have h3:4*(8*(8+k))*a=8*(4*(8+k)*a):=by
    rw[←Nat.mul_assoc 4,Nat.mul_comm 4 8,Nat.mul_assoc 8,Nat.mul_assoc 8]
   omega
theorem Oo (f:Bytes→Nat):∀l:List Bytes,4^l.length*7^(l.map f).sum*jV f l≤11^l.length*8^(l.map f).sum
 |[]=>by simp[jV]
 |a::l=>by
  have h1:=x_le (f a)
  have h2:=Oo f l
  rw[List.length_cons,List.map_cons,List.sum_cons,jV,Nat.pow_succ,Nat.pow_succ,Nat.pow_add,Nat.pow_add]
  have:=Nat.mul_le_mul h1 h2
  generalize 4^l.length=a1 at*
  generalize 7^(l.map f).sum=a2 at*
  generalize 11^l.length=a3 at*
  generalize 8^(l.map f).sum=a4 at*
  generalize jV f l=a5 at*
  generalize 7^f a=a6 at*
  generalize 8^f a=a7 at*
  generalize f a=x at*
  calc a1*4*(a6*a2)*(x*a5)=4*x*a6*(a1*a2*a5):=by simp only[Nat.mul_assoc,Nat.mul_comm,Nat.mul_left_comm]
   _≤11*a7*(a3*a4):=this
   _=a3*11*(a7*a4):=by simp only[Nat.mul_assoc,Nat.mul_comm,Nat.mul_left_comm]
theorem Wo (f:Bytes→Nat) (l:List Bytes) (hl:l.length≤8) (hs:(l.map f).sum≤60):jV f l≤10000000:=by
 have h:=Oo f l;obtain⟨a,ha⟩:∃a,l.length+a=8:=⟨8-l.length,by omega⟩;obtain⟨b,hb⟩:∃b,(l.map f).sum+b=60:=⟨60-(l.map f).sum,by omega⟩;have h4:4^a≤11^a:=Nat.pow_le_pow_left (by decide) a;have h7:7^b≤8^b:=Nat.pow_le_pow_left (by decide) b;have h2:=Nat.mul_le_mul (Nat.mul_le_mul h4 h7) h
 have e1:4^a*7^b*(4^l.length*7^(l.map f).sum*jV f l)=4^8*7^60*jV f l:=by
  rw[←ha,←hb,Nat.pow_add,Nat.pow_add];simp only[Nat.mul_assoc,Nat.mul_comm,Nat.mul_left_comm]
 have e2:11^a*8^b*(11^l.length*8^(l.map f).sum)=11^8*8^60:=by
  rw[←ha,←hb,Nat.pow_add,Nat.pow_add];simp only[Nat.mul_assoc,Nat.mul_comm,Nat.mul_left_comm]
 rw[e1,e2]at h2;rcases Nat.lt_or_ge 10000000 (jV f l)with h3|h3
 ·have h5:4^8*7^60*10000000≤4^8*7^60*jV f l:=Nat.mul_le_mul_left _ (Nat.le_of_lt h3)
  have h6:¬(4^8*7^60*10000000≤11^8*8^60):=by decide
  exact absurd (Nat.le_trans h5 h2) h6
 ·exact h3
end Go.Ag
/- Environments of small definitions; what a type stands for, and its text. -/
namespace Go.Ag
open Go
variable {T : Tab} {L : Lnk} {by_ : List (Bytes × TA)} {e : dL} {C : List TA}
theorem Jp :∀(n:Nat) (t:TA),wtT t≤n→gZ t=allT t
 |0,t,h=>by have:=BK t;omega
 |n+1,t,h=>by
  obtain⟨k,nm,ns,l⟩:=t;rw[wtT]at h
  have:∀m:List TA,(∀t∈m,wtT t≤n)→uQ m=yj m:=fun m=>by
   induction m with
   |nil=>intro _;rfl
   |cons t m ih=>intro hm;rw[uQ,yj,Jp n t (hm t (by simp)),ih fun x hx=>hm x (by simp[hx])]
  rw[gZ,allT,this l fun t ht=>by have:=iP ht;omega]
theorem Jo (t:TA):(gZ t).length=szT t:=by rw[Jp _ t (Nat.le_refl _)];rfl
theorem Oc :∀(n:Nat) (t:TA),wtT t≤n→∀x∈gZ t,szT x≤szT t
 |0,t,h=>by have:=BK t;omega
 |n+1,t,h=>by
  obtain⟨k,nm,ns,l⟩:=t;intro x hx;rw[gZ]at hx;rcases List.mem_cons.1 hx with rfl|hx
  ·exact Nat.le_refl _
  ·obtain⟨u,hu,hx⟩:=rV.1 hx
   rw[wtT]at h;have h1:=Oc n u (by have:=iP hu;omega) x hx;have h2:=G5 hu;rw[oD];omega
theorem Ub (hE:lq by_ e) (hnd:(by_.map (·.1)).Nodup) (bs:List TA) (hb:∀p∈by_,p.2∈bs) (hn:∀t∈bs,NT t) (hw:∀t∈bs,wtT t≤2^30) (hz:∀t∈bs,szT t≤100) (hl:bs.length≤2^10)
  (hbl:by_.length≤8) (hbs:(by_.map fun p=>szT p.2).sum≤60):iW by_ e (bs.flatMap gZ)where
 ok:=hE
 nodup:=hnd
 mem:=fun p hp=>List.mem_flatMap.2 ⟨p.2,hb p hp,pI _⟩
 nt:=fun t ht=>by
  obtain⟨b,hb,ht⟩:=List.mem_flatMap.1 ht;exact G6 _ b (Nat.le_refl _) (hn b hb) t ht
 cl:=fun t ht x hx=>by
  obtain⟨b,hb,ht⟩:=List.mem_flatMap.1 ht;exact List.mem_flatMap.2 ⟨b,hb,((oV _ b (Nat.le_refl _)).1 t ht).2 x hx⟩
 wt:=fun t ht=>by
  obtain⟨b,hb,ht⟩:=List.mem_flatMap.1 ht;exact Nat.le_trans ((oV _ b (Nat.le_refl _)).1 t ht).1 (hw b hb)
 fin:=by
  have:∀(l:List TA),(∀t∈l,szT t≤100)→(l.flatMap gZ).length≤l.length*100:=by
   intro l
   induction l with
   |nil=>intro _;simp
   |cons t l ih=>
    intro h;rw[List.flatMap_cons,List.length_append,List.length_cons,Nat.add_mul,Jo];have h2:=h t (by simp);have h3:=ih fun x hx=>h x (by simp[hx])
    omega
  have h1:=this bs hz;omega
 EL:=fun t ht=>by
  obtain⟨b,hb',ht⟩:=List.mem_flatMap.1 ht;have h1:=Oc _ b (Nat.le_refl _) t ht;have h2:=hz b hb';obtain⟨n,hs⟩:=rX hE hnd t;have h3:=(Fh hE hnd n).1 [] (by_.map (·.1)) t _ (List.Perm.refl _) (fun p hp=>by cases hp) hs
  have h4:((by_.map (·.1)).map fun p=>szT (dF by_ p)).sum≤60:=by
   rw[List.map_map,show by_.map ((fun p=>szT (dF by_ p))∘(·.1))=by_.map fun p=>szT p.2 from List.map_congr_left fun p hp=>by
    show szT (dF by_ p.1)=_
    rw[Ae hnd hp]]
   exact hbs
  have h5:=Wo (fun p=>szT (dF by_ p)) (by_.map (·.1)) (by rw[List.length_map];exact hbl) h4;have h6:=Nat.mul_le_mul (Nat.le_trans h1 h2) h5;omega
theorem YQ {l:List TA} {m:Nat} (h:∀t∈l,wtT t≤m):wtL l≤l.length*(m+8):=by
 induction l with
 |nil=>simp[wtL]
 |cons t l ih=>
  rw[wtL,List.length_cons,Nat.add_mul];have h1:=h t (by simp);have h2:=ih fun x hx=>h x (by simp[hx])
  omega
end Go.Ag
/- Package cupellaw08: alive. -/
namespace Go.Ag
open Go
variable {T : Tab} {L : Lnk}
end Go.Ag
/- Abstract codes, printed by a program of ours (acode.py) out of the given program's form. -/
namespace Go.Ag
open Go
def Pn :aM:=(.mk 2 59 [4,5,6,7,8] (.seq (.ops [(.d 4 (.mv (.const .eD))),(.d 5 (.mv (.const .nl))),(.d 6 (.mv (.const .nl))),(.d 7 (.mv (.const .nl))),(.d 8 (.mv (.const (.bool false))))]) (.seq (.ops [(.d 18 (.mv 0)),(.d 19 (.call 147 [18])),(.d 17 (.mv 19)),(.d 20 (.ext 17 0)),(.d 21 (.ext 17 1)),(.d 22 (.ext 17 2)),(.d 9 (.mv 20)),(.d 10 (.mv 21)),(.d 11 (.mv 22))]) (.seq (.ops [(.d 24 (.mv 1)),(.d 25 (.call 194 [24])),(.d 23 (.mv 25)),(.d 26 (.ext 23 0)),(.d 27 (.ext 23 1)),(.d 28 (.ext 23 2)),(.d 12 (.mv 26)),(.d 13 (.mv 27)),(.d 14 (.mv 28))]) (.seq (.seq (.ops [(.d 29 (.mv 11)),(.d 30 (.un .not 29)),(.d 31 (.mv 30)),(.g 32 (.mv 14) 31 false),(.g 33 (.un .not 32) 31 false),(.d 34 (.pick 31 (.const (.bool true)) 33)),(.d 35 (.mv 34)),(.g 36 (.mv 10) 35 false),(.g 37 (.call 148 [36]) 35 false),(.g 38 (.un .not 37) 35 false),(.d 39 (.pick 35 (.const (.bool true)) 38))]) (.cond 39 (.seq (.ops [(.d 4 (.mv (.const .eD))),(.d 5 (.mv (.const .nl))),(.d 6 (.mv (.const .nl))),(.d 7 (.mv (.const .nl))),(.d 8 (.mv (.const (.bool false))))]) .ret) .skip)) (.seq (.ops [(.d 15 (.mv (.const (.i 0))))]) (.seq (.seq (.ops [(.d 16 (.mv (.const (.i 0))))]) (.block 0 (.loop (.seq (.seq (.ops [(.d 40 (.mv 16)),(.d 41 (.mv 13)),(.d 42 (.jo 41)),(.d 43 (.bin .lss 40 42))]) (.cond 43 .skip (.exit 0))) (.seq (.block 1 (.ops [(.d 46 (.mv 15)),(.d 47 (.mv 13)),(.d 48 (.mv 16)),(.d 49 (.aV 4 47 48)),(.d 50 (.load (some 4) 49)),(.d 51 (.call 190 [50])),(.d 52 (.bin .add 46 51)),(.d 15 (.mv 52))])) (.ops [(.d 44 (.mv 16)),(.d 45 (.bin .add 44 (.const (.i 1)))),(.d 16 (.mv 45))])))))) (.seq (.ops [(.d 53 (.mv 9)),(.d 54 (.mv 10)),(.d 55 (.mv 12)),(.d 56 (.mv 13)),(.d 57 (.mv 15)),(.d 58 (.bin .leq 57 (.const (.i 40)))),(.d 4 (.mv 53)),(.d 5 (.mv 54)),(.d 6 (.mv 55)),(.d 7 (.mv 56)),(.d 8 (.mv 58))]) .ret))))))))
def U1 :aM:=(.mk 1 59 [2,3,4] (.seq (.ops [(.d 2 (.mv (.const .nl))),(.d 3 (.mv (.const .nl))),(.d 4 (.mv (.const (.bool false))))]) (.seq (.ops [(.d 5 (.mv (.const .nl)))]) (.seq (.ops [(.d 6 (.mv (.const .nl)))]) (.seq (.seq (.ops [(.d 7 (.mv (.const (.i 0))))]) (.block 0 (.loop (.seq (.seq (.ops [(.d 12 (.mv 7)),(.d 13 (.mv 0)),(.d 14 (.jo 13)),(.d 15 (.bin .lss 12 14))]) (.cond 15 .skip (.exit 0))) (.seq (.block 1 (.seq (.seq (.ops [(.d 18 (.mv 0)),(.d 19 (.mv 7)),(.d 20 (.aV 1 18 19)),(.d 21 (.load none 20)),(.d 22 (.qx 21)),(.d 23 (.bin .gtr 22 (.const (.i 600))))]) (.cond 23 (.seq (.ops [(.d 2 (.mv (.const .nl))),(.d 3 (.mv (.const .nl))),(.d 4 (.mv (.const (.bool false))))]) .ret) .skip)) (.seq (.ops [(.d 25 (.mv 0)),(.d 26 (.mv 7)),(.d 27 (.aV 1 25 26)),(.d 28 (.load none 27)),(.d 29 (.call 142 [28])),(.d 24 (.mv 29)),(.d 30 (.ext 24 0)),(.d 31 (.ext 24 1)),(.d 8 (.alloc [(.i 0),(.str []),.nl,.nl] 175)),(.n (.store 4 8 30)),(.d 9 (.mv 31))]) (.seq (.ops [(.d 33 (.mv 0)),(.d 34 (.mv 7)),(.d 35 (.aV 1 33 34)),(.d 36 (.load none 35)),(.d 37 (.call 233 [36])),(.d 32 (.mv 37)),(.d 38 (.ext 32 0)),(.d 39 (.ext 32 1)),(.d 10 (.alloc [(.i 0),(.str []),.nl,.nl] 109)),(.n (.store 4 10 38)),(.d 11 (.mv 39))]) (.seq (.seq (.ops [(.d 40 (.mv 9)),(.d 41 (.un .not 40)),(.d 42 (.mv 41)),(.g 43 (.mv 11) 42 false),(.g 44 (.un .not 43) 42 false),(.d 45 (.pick 42 (.const (.bool true)) 44))]) (.cond 45 (.seq (.ops [(.d 2 (.mv (.const .nl))),(.d 3 (.mv (.const .nl))),(.d 4 (.mv (.const (.bool false))))]) .ret) .skip)) (.seq (.ops [(.d 46 (.mv 5)),(.d 47 (.load (some 4) 8)),(.d 48 (.lit 4 72 [] 1 [(0,47)])),(.d 49 (.append 4 72 175 46 48)),(.d 5 (.mv 49))]) (.ops [(.d 50 (.mv 6)),(.d 51 (.load (some 4) 10)),(.d 52 (.lit 4 72 [] 1 [(0,51)])),(.d 53 (.append 4 72 109 50 52)),(.d 6 (.mv 53))]))))))) (.ops [(.d 16 (.mv 7)),(.d 17 (.bin .add 16 (.const (.i 1)))),(.d 7 (.mv 17))])))))) (.seq (.ops [(.d 54 (.mv 5)),(.d 55 (.mv 6)),(.d 56 (.mv 0)),(.d 57 (.jo 56)),(.d 58 (.bin .leq 57 (.const (.i 12)))),(.d 2 (.mv 54)),(.d 3 (.mv 55)),(.d 4 (.mv 58))]) .ret))))))
def UH :aM:=(.mk 1 29 [(.cell 2 (some 4)),3] (.seq (.ops [(.d 2 (.alloc [(.i 0),(.str []),.nl,.nl] 109)),(.d 3 (.mv (.const (.bool false))))]) (.seq (.ops [(.d 6 (.mv 0)),(.d 7 (.call 39 [6])),(.d 4 (.alloc [.nl,(.i 0),.nl,(.bool false)] 83)),(.n (.store 4 4 7))]) (.seq (.ops [(.d 8 (.call 62 [4,(.const (.i 1))])),(.d 5 (.alloc [(.i 0),(.str []),.nl,.nl] 109)),(.n (.store 4 5 8))]) (.seq (.seq (.ops [(.d 9 (.aB 3 4)),(.d 10 (.load none 9)),(.d 11 (.mv 10)),(.g 12 (.aB 0 4) 11 false),(.g 13 (.load none 12) 11 false),(.g 14 (.aB 1 4) 11 false),(.g 15 (.load none 14) 11 false),(.g 16 (.aV 3 13 15) 11 false),(.g 17 (.aB 0 16) 11 false),(.g 18 (.load none 17) 11 false),(.g 19 (.bin .neq 18 (.const (.i 6))) 11 false),(.d 20 (.pick 11 (.const (.bool true)) 19)),(.d 21 (.mv 20)),(.g 22 (.aB 2 4) 21 false),(.g 23 (.load none 22) 21 false),(.g 24 (.jo 23) 21 false),(.g 25 (.bin .gtr 24 (.const (.i 0))) 21 false),(.d 26 (.pick 21 (.const (.bool true)) 25))]) (.cond 26 (.seq (.ops [(.d 27 (.build [(.i 0),(.str []),.nl,.nl] [])),(.n (.store 4 2 27)),(.d 3 (.mv (.const (.bool false))))]) .ret) .skip)) (.seq (.ops [(.d 28 (.load (some 4) 5)),(.n (.store 4 2 28)),(.d 3 (.mv (.const (.bool true))))]) .ret))))))
end Go.Ag
/- Abstract codes, printed by a program of ours (acode.py) out of the given program's form. -/
namespace Go.Ag
open Go
def rE :aM:=(.mk 3 161 [6] (.seq (.ops [(.d 6 (.mv (.const (.bool false))))]) (.seq (.seq (.ops [(.d 18 (.call 161 [])),(.d 19 (.un .not 18))]) (.cond 19 (.seq (.ops [(.d 6 (.mv (.const (.bool false))))]) .ret) .skip)) (.seq (.ops [(.d 21 (.mv 0)),(.d 22 (.mv 1)),(.d 23 (.mv 2)),(.d 24 (.lit 1 16 [] 2 [(0,22),(1,23)])),(.d 25 (.call 155 [21,24])),(.d 20 (.mv 25)),(.d 26 (.ext 20 0)),(.d 27 (.ext 20 1)),(.d 28 (.ext 20 2)),(.d 29 (.ext 20 3)),(.d 30 (.ext 20 4)),(.d 9 (.alloc [.nl] 173)),(.d 7 (.mv 26)),(.d 8 (.mv 27)),(.n (.store 1 9 28)),(.d 10 (.mv 29)),(.d 11 (.mv 30))]) (.seq (.seq (.ops [(.d 31 (.mv 11)),(.d 32 (.un .not 31))]) (.cond 32 (.seq (.ops [(.d 6 (.mv (.const (.bool true))))]) .ret) .skip)) (.seq (.draw [(.d 33 (.mv 7)),(.d 34 (.load none 9)),(.d 35 (.aV 4 34 (.const (.i 0)))),(.d 36 (.load (some 4) 35)),(.d 37 (.load none 9)),(.d 38 (.aV 4 37 (.const (.i 1)))),(.d 39 (.load (some 4) 38))] [(.d 40 (.call 162 [33,36,39])),(.d 12 (.mv 40))]) (.seq (.draw [(.d 41 (.mv 7)),(.d 42 (.load none 9)),(.d 43 (.aV 4 42 (.const (.i 0)))),(.d 44 (.load (some 4) 43)),(.d 45 (.load none 9)),(.d 46 (.aV 4 45 (.const (.i 1)))),(.d 47 (.load (some 4) 46))] [(.d 48 (.call 163 [41,44,47])),(.d 13 (.mv 48))]) (.seq (.ops [(.d 14 (.mv (.const (.fn (.func 164) [] []))))]) (.seq (.draw [(.d 49 (.lit 1 16 [] 2 [(0,(.const (.str [106]))),(1,(.const (.str [107])))])),(.d 50 (.load none 9)),(.d 51 (.aV 4 50 (.const (.i 1)))),(.d 52 (.load (some 4) 51)),(.d 53 (.load none 9)),(.d 54 (.aV 4 53 (.const (.i 0)))),(.d 55 (.load (some 4) 54)),(.d 56 (.lit 4 72 [] 2 [(0,52),(1,55)])),(.d 57 (.build [(.i 0),(.str []),.nl,.nl] [(0,(1,(.const (.i 5)))),(2,(1,49)),(3,(1,56))])),(.d 15 (.alloc [(.i 0),(.str []),.nl,.nl] 175))] [(.n (.store 4 15 57))]) (.seq (.ops [(.d 58 (.mkF (.func 165) [] [9])),(.d 16 (.mv 58))]) (.seq (.ops [(.d 59 (.mkF (.func 166) [] [9])),(.d 17 (.mv 59))]) (.seq (.draw [(.d 60 (.mv 7)),(.d 61 (.mv 14)),(.d 62 (.load none 9)),(.d 63 (.aV 4 62 (.const (.i 0)))),(.d 64 (.load (some 4) 63)),(.d 65 (.fJ 61 [64])),(.d 66 (.mv 14)),(.d 67 (.load none 9)),(.d 68 (.aV 4 67 (.const (.i 1)))),(.d 69 (.load (some 4) 68)),(.d 70 (.fJ 66 [69])),(.d 71 (.call 162 [60,65,70])),(.d 72 (.mv 12)),(.d 73 (.qz false 71 72)),(.d 74 (.mv 73)),(.g 75 (.mv 7) 74 true),(.g 76 (.load (some 4) 15) 74 true),(.g 77 (.mv 14) 74 true),(.g 78 (.load none 9) 74 true),(.g 79 (.aV 4 78 (.const (.i 1))) 74 true),(.g 80 (.load (some 4) 79) 74 true),(.g 81 (.fJ 77 [80]) 74 true),(.g 82 (.call 162 [75,76,81]) 74 true),(.g 83 (.mv 12) 74 true),(.g 84 (.qz false 82 83) 74 true),(.d 85 (.pick 74 84 (.const (.bool false)))),(.d 86 (.mv 85)),(.g 87 (.mv 7) 86 true),(.g 88 (.mv 14) 86 true),(.g 89 (.load none 9) 86 true),(.g 90 (.aV 4 89 (.const (.i 1))) 86 true),(.g 91 (.load (some 4) 90) 86 true),(.g 92 (.fJ 88 [91]) 86 true),(.g 93 (.load (some 4) 15) 86 true),(.g 94 (.call 162 [87,92,93]) 86 true),(.g 95 (.un .not 94) 86 true),(.d 96 (.pick 86 95 (.const (.bool false)))),(.d 97 (.mv 96)),(.g 98 (.mv 7) 97 true),(.g 99 (.mv 16) 97 true),(.g 100 (.load none 9) 97 true),(.g 101 (.aV 4 100 (.const (.i 0))) 97 true),(.g 102 (.load (some 4) 101) 97 true),(.g 103 (.fJ 99 [102]) 97 true),(.g 104 (.mv 16) 97 true),(.g 105 (.load none 9) 97 true),(.g 106 (.aV 4 105 (.const (.i 1))) 97 true),(.g 107 (.load (some 4) 106) 97 true),(.g 108 (.fJ 104 [107]) 97 true),(.g 109 (.call 162 [98,103,108]) 97 true),(.g 110 (.mv 12) 97 true),(.g 111 (.qz false 109 110) 97 true),(.d 112 (.pick 97 111 (.const (.bool false)))),(.d 113 (.mv 112)),(.g 114 (.mv 7) 113 true),(.g 115 (.mv 17) 113 true),(.g 116 (.load none 9) 113 true),(.g 117 (.aV 4 116 (.const (.i 1))) 113 true),(.g 118 (.load (some 4) 117) 113 true),(.g 119 (.fJ 115 [118]) 113 true),(.g 120 (.mv 17) 113 true),(.g 121 (.load none 9) 113 true),(.g 122 (.aV 4 121 (.const (.i 0))) 113 true),(.g 123 (.load (some 4) 122) 113 true),(.g 124 (.fJ 120 [123]) 113 true),(.g 125 (.call 162 [114,119,124]) 113 true),(.g 126 (.mv 12) 113 true),(.g 127 (.qz false 125 126) 113 true),(.d 128 (.pick 113 127 (.const (.bool false)))),(.d 129 (.mv 128)),(.g 130 (.mv 7) 129 true),(.g 131 (.mv 14) 129 true),(.g 132 (.load none 9) 129 true),(.g 133 (.aV 4 132 (.const (.i 0))) 129 true),(.g 134 (.load (some 4) 133) 129 true),(.g 135 (.fJ 131 [134]) 129 true),(.g 136 (.mv 14) 129 true),(.g 137 (.load none 9) 129 true),(.g 138 (.aV 4 137 (.const (.i 1))) 129 true),(.g 139 (.load (some 4) 138) 129 true),(.g 140 (.fJ 136 [139]) 129 true),(.g 141 (.call 163 [130,135,140]) 129 true),(.g 142 (.mv 13) 129 true),(.g 143 (.qz false 141 142) 129 true),(.d 144 (.pick 129 143 (.const (.bool false)))),(.d 145 (.mv 144)),(.g 146 (.mv 7) 145 true),(.g 147 (.mv 17) 145 true),(.g 148 (.load none 9) 145 true),(.g 149 (.aV 4 148 (.const (.i 1))) 145 true),(.g 150 (.load (some 4) 149) 145 true),(.g 151 (.fJ 147 [150]) 145 true),(.g 152 (.mv 17) 145 true),(.g 153 (.load none 9) 145 true),(.g 154 (.aV 4 153 (.const (.i 0))) 145 true),(.g 155 (.load (some 4) 154) 145 true),(.g 156 (.fJ 152 [155]) 145 true),(.g 157 (.call 163 [146,151,156]) 145 true),(.g 158 (.mv 13) 145 true),(.g 159 (.qz false 157 158) 145 true),(.d 160 (.pick 145 159 (.const (.bool false)))),(.d 6 (.mv 160))] []) .ret))))))))))))
def c_164 :aM:=(.mk 1 7 [(.cell 2 (some 4))] (.seq (.ops [(.d 1 (.box 175 0)),(.d 2 (.alloc [(.i 0),(.str []),.nl,.nl] 175))]) (.seq (.ops [(.d 3 (.lit 1 16 [] 1 [(0,(.const (.str [107])))])),(.d 4 (.load (some 4) 1)),(.d 5 (.lit 4 72 [] 1 [(0,4)])),(.d 6 (.build [(.i 0),(.str []),.nl,.nl] [(0,(1,(.const (.i 5)))),(2,(1,3)),(3,(1,5))])),(.n (.store 4 2 6))]) .ret)))
def Pm :aM:=(.mk 2 10 [(.cell 3 (some 4))] (.seq (.ops [(.d 2 (.box 175 0)),(.d 3 (.alloc [(.i 0),(.str []),.nl,.nl] 175))]) (.seq (.draw [(.d 4 (.load none 1)),(.d 5 (.aV 4 4 (.const (.i 0)))),(.d 6 (.load (some 4) 5)),(.d 7 (.load (some 4) 2)),(.d 8 (.lit 4 72 [] 2 [(0,6),(1,7)])),(.d 9 (.build [(.i 0),(.str []),.nl,.nl] [(0,(1,(.const (.i 6)))),(3,(1,8))]))] [(.n (.store 4 3 9))]) .ret)))
def Pk :aM:=(.mk 2 10 [(.cell 3 (some 4))] (.seq (.ops [(.d 2 (.box 175 0)),(.d 3 (.alloc [(.i 0),(.str []),.nl,.nl] 175))]) (.seq (.draw [(.d 4 (.load (some 4) 2)),(.d 5 (.load none 1)),(.d 6 (.aV 4 5 (.const (.i 1)))),(.d 7 (.load (some 4) 6)),(.d 8 (.lit 4 72 [] 2 [(0,4),(1,7)])),(.d 9 (.build [(.i 0),(.str []),.nl,.nl] [(0,(1,(.const (.i 6)))),(3,(1,8))]))] [(.n (.store 4 3 9))]) .ret)))
def Vb :aM:=(.mk 1 7 [(.cell 2 (some 4))] (.seq (.ops [(.d 1 (.box 175 0)),(.d 2 (.alloc [(.i 0),(.str []),.nl,.nl] 175))]) (.seq (.ops [(.d 3 (.lit 1 16 [] 1 [(0,(.const (.str [107])))])),(.d 4 (.load (some 4) 1)),(.d 5 (.lit 4 72 [] 1 [(0,4)])),(.d 6 (.build [(.i 0),(.str []),.nl,.nl] [(0,(1,(.const (.i 5)))),(2,(1,3)),(3,(1,5))])),(.n (.store 4 2 6))]) .ret)))
end Go.Ag
/- Bodies in pieces: a run is told part by part. -/
namespace Go.Ag
open Go
variable {T : Tab} {L : Lnk}
def Kz :Nat→AC→AC
 |0,_=>.skip
 |n+1,.seq a b=>.seq a (Kz n b)
 |_+1,c=>c
def Jk :Nat→AC→AC
 |0,b=>b
 |n+1,.seq a b=>Jk n b
 |_+1,_=>.skip
theorem zQ {P:Env→Heap→Prop} {Q:ng}:∀(n:Nat) (c:AC) (e:Env) (H:Heap),dI L (Kz n c) e H (tN P Q)→(∀e' H',P e' H'→dI L (Jk n c) e' H' Q)→dI L c e H Q
 |0,c,e,H,h,ht=>ht _ _ h
 |n+1,c,e,H,h,ht=>by
  have other:(∀a b,c≠.seq a b)→dI L c e H Q:=fun hne=>by
   have e1:Kz (n+1) c=c:=by cases c<;>first|rfl|exact absurd rfl (hne _ _)
   have e2:Jk (n+1) c=.skip:=by cases c<;>first|rfl|exact absurd rfl (hne _ _)
   rw[e1]at h;refine lT (fun x e' H' hx=>?_) h
   cases x with
   |normal=>
    have:=ht e' H' hx;rw[e2]at this;exact this
   |_=>exact hx
  cases c with
  |seq a b=>
   have h:dI L a e H (tN (fun e' H'=>dI L (Kz n b) e' H' (tN P Q)) (tN P Q)):=h;show dI L a e H (tN (fun e' H'=>dI L b e' H' Q) Q);refine lT (fun x e' H' hx=>?_) h
   cases x with
   |normal=>exact zQ n b e' H' hx ht
   |_=>exact hx
  |_=>exact other (fun a b=>by simp)
def vo :Nat→AC→AC
 |0,.seq a _=>a
 |n+1,.seq _ b=>vo n b
 |_,c=>c
end Go.Ag
/- Library functions whose contracts are told of the machine: made abstract contracts. -/
namespace Go.Ag
open Go
open Go.RowKit (Below)
variable {L : Lnk}
theorem below_drewN (w:World) (n:Nat):Below w.heap.size w (w.drewN n):=⟨rfl,rfl,rfl,Nat.le_refl _,fun _ _=>rfl⟩
theorem vO {f:Nat} {args:List au} {H:Heap} {x:au}
  (hc:∀g w vs,St L g w H→aX L g vs args→∃v,Rep L g v x∧Calls L.P (L.num f) vs.toArray w fun e w'=>e=.returned v∧Below w.heap.size w w'):
  aC L f args H fun r H'=>r=.ret x∧H'=H:=fun g w vs hs hr=>by
 obtain⟨v,h1,h2⟩:=hc g w vs hs hr;exact h2.mono fun e w' ⟨h3,h4⟩=>⟨.ret x,H,g,⟨rfl,rfl⟩,aA.le.refl g,hs.wider h4,v,h3,h1⟩
theorem Rb {f:Nat} {args:List au} {H:Heap} {x:au}
  (hc:∀g w vs,St L g w H→aX L g vs args→Calls L.P (L.num f) vs.toArray w fun e w'=>(∃v,e=.returned v∧Rep L g v x)∧Below w.heap.size w w'):
  aC L f args H fun r H'=>r=.ret x∧H'=H:=fun g w vs hs hr=>by
 exact(hc g w vs hs hr).mono fun e w' ⟨⟨v,h3,h1⟩,h4⟩=>⟨.ret x,H,g,⟨rfl,rfl⟩,aA.le.refl g,hs.wider h4,v,h3,h1⟩
theorem JJ {g:aA} {vs:List Value} {a:au} (h:aX L g vs [a]):∃v,vs=[v]∧Rep L g v a:=by
 cases h with|cons v _ _ _ h hs=>cases hs;exact⟨v,rfl,h⟩
theorem JI {g:aA} {vs:List Value} {a b:au} (h:aX L g vs [a,b]):∃v u,vs=[v,u]∧Rep L g v a∧Rep L g u b:=by
 cases h with|cons v _ _ _ h hs=>obtain⟨u,rfl,h2⟩:=JJ hs;exact⟨v,u,rfl,h,h2⟩
end Go.Ag
/- The library's contracts of the laws: from the machine's to abstract ones. -/
namespace Go.Ag
open Go
open Go.RowKit (Below)
variable {L : Lnk}
theorem YA (c:UInt8):∀(a b:Bytes),c∉a→Lib.index (a ++c::b) [c]=a.length
 |[],b,_=>by simp[Lib.index]
 |x::a,b,h=>by
  simp only[List.mem_cons,not_or]at h;have ih:=YA c a b h.2;simp only[List.cons_append,Lib.index];rw[if_neg (by simp[h.1]),ih,if_neg (by simp<;>omega)];simp
theorem Yz (c:UInt8):∀(a:Bytes),c∉a→Lib.index a [c]= -1
 |[],_=>rfl
 |x::a,h=>by
  simp only[List.mem_cons,not_or]at h;simp only[Lib.index];rw[if_neg (by simp[h.1]),Yz c a h.2];rfl
theorem Em (c:UInt8):∀s:Bytes,(∃a b,s=a ++c::b∧c∉a∧En c s=(a,b,true))∨(c∉s∧En c s=(s,[],false))
 |[]=>.inr ⟨by simp,rfl⟩
 |x::s=>by
  by_cases h:x=c
  ·subst h
   exact .inl ⟨[],s,rfl,by simp,by simp[En]⟩
  ·rcases Em c s with⟨a,b,rfl,h1,h2⟩|⟨h1,h2⟩
   ·refine .inl ⟨x::a,b,rfl,by simp[Ne.symm h,h1],?_⟩
    simp only[En,Prod.mk.injEq]at h2⊢;obtain⟨e1,e2,e3⟩:=h2;refine⟨?_,?_,by simp⟩
    ·rw[List.takeWhile_cons,if_pos (by simpa using h),e1]
    ·rw[List.dropWhile_cons,if_pos (by simpa using h),e2]
   ·refine .inr ⟨by simp[Ne.symm h,h1],?_⟩
    simp only[En,Prod.mk.injEq]at h2⊢;obtain⟨e1,e2,e3⟩:=h2;refine⟨?_,?_,?_⟩
    ·rw[List.takeWhile_cons,if_pos (by simpa using h),e1]
    ·rw[List.dropWhile_cons,if_pos (by simpa using h),e2]
    ·rw[List.any_cons,e3];simpa using h
theorem Yi (c:UInt8) (s:Bytes):Lib.cut s [c]=En c s:=by
 unfold Lib.cut;rcases Em c s with⟨a,b,rfl,h,e⟩|⟨h,e⟩
 ·rw[YA c a b h,e,if_pos (by omega)]
  simp
 ·rw[Yz c s h,e]
  rfl
theorem DL (sep:Bytes):∀ws:List Bytes,Lib.join ws sep=iT sep ws
 |[]=>rfl
 |[w]=>Lib.join_one w sep
 |w::u::r=>by
  have ih:=DL sep (u::r);rw[Lib.join_cons]at ih⊢;simp only[iT];rw[←ih];simp[Lib.joinTail]
theorem CG (s:Bytes):(⟨s.toArray⟩:ByteArray).data.toList=s:=by simp
theorem sizeB (s:Bytes):(⟨s.toArray⟩:ByteArray).size=s.length:=by show s.toArray.size=_;simp
theorem Fv {g:aA} {vs:List Value}:∀{l:List Bytes},aX L g vs (aO l)→vs=l.map fun s=>.string ⟨s.toArray⟩:=fun{l} h=>by
 induction l generalizing vs with
 |nil=>cases h;rfl
 |cons s l ih=>
  simp only[aO,List.map_cons]at h
  cases h with
  |cons v _ vs _ h hs=>rw[iQ h,ih hs];rfl
theorem xO {g:aA}:∀l:List Bytes,aX L g (l.map fun s=>Value.string ⟨s.toArray⟩) (aO l)
 |[]=>.nil
 |s::l=>.cons _ _ _ _ (.str s) (xO l)
theorem Jq {g:aA} {w:World} {H:Heap} (hs:St L g w H) {v:Value} {l:List Bytes} {tk:Tok} (h:Rep L g v (.lst (aO l) tk)):
  ∃a c,v=.slice a l.length c∧l.length≤c∧(l≠[]→∃b o,a=some ⟨b,o,none⟩∧b<w.heap.size∧∀(j:Nat) s,l[j]?=some s→w.cell? ⟨b,o+j,none⟩=some (.string ⟨s.toArray⟩)):=by
 obtain⟨a,c,k,b,o,vs,rfl,h1,h2,_,h4,_,h6⟩:=lS h;rw[sP]at h6;have hv:=Fv h6;have hl:(aO l).length=l.length:=by simp[aO]
 rw[hl]at h4⊢;refine⟨a,c,rfl,h4,fun hne=>⟨b,o,h1 (by intro e;apply hne;simpa[aO]using e),?_,fun j s hj=>?_⟩⟩
 ·obtain⟨s,l',rfl⟩:=List.exists_cons_of_ne_nil hne
  have:=h2 0 (.string ⟨s.toArray⟩) (by rw[hv];rfl);exact hs.Gd this
 ·exact hs.fz b (o+j) _ (h2 j _ (by rw[hv];simp[hj]))
structure qF (L:Lnk)where
 Q7:Nat
 Wj:TypeId
 indexByte:∀(s:ByteArray) (c:Int) (w:World),Calls L.P (L.num 49) #[.string s,.int .u8 c] w fun e w'=>e=.returned (.int .i64 (Lib.indexByte s.data.toList c.toNat.toUInt8))∧w'=w
 cut:∀(s sep:ByteArray) (m:Int) (w:World),s.size<4294967281→w.cell? ⟨Q7,0,none⟩=some (.int .i64 m)→
  Calls L.P (L.num 22) #[.string s,.string sep] w fun e w'=>e=.returned (.tuple #[.string ⟨(Lib.cut s.data.toList sep.data.toList).1.toArray⟩,.string ⟨(Lib.cut s.data.toList sep.data.toList).2.1.toArray⟩,.bool (Lib.cut s.data.toList sep.data.toList).2.2])∧∃n,w'=w.drewN n
 Ko:∀(a:Option Addr) (c:Nat) (sep:ByteArray) (w:World),Calls L.P (L.num 20) #[.slice a 0 c,.string sep] w fun e w'=>e=.returned (.string ⟨[].toArray⟩)∧Below w.heap.size w w'
 join:∀(bk o c:Nat) (xs:List ByteArray) (sep:ByteArray) (w:World),(∀(j:Nat) x,xs[j]?=some x→w.cell? ⟨bk,o+j,none⟩=some (.string x))→bk<w.heap.size→xs.length≤140737488355328→xs.length≤c→
  (Lib.join (xs.map (·.data.toList)) sep.data.toList).length≤140737488355328→
  Calls L.P (L.num 20) #[.slice (some ⟨bk,o,none⟩) xs.length c,.string sep] w fun e w'=>e=.returned (.string ⟨(Lib.join (xs.map (·.data.toList)) sep.data.toList).toArray⟩)∧Below w.heap.size w w'
 clone:∀(b off n c:Nat) (zs:List ByteArray) (w:World),n≤zs.length→n*16≤140737488355328→(∀j,j<zs.length→w.cell? ⟨b,off+j,none⟩=some (.string (zs.getD j ByteArray.empty)))→
  Calls L.P (L.num 208) #[.slice (some ⟨b,off,none⟩) n c] w fun e w'=>∃v',e=.returned v'∧w'.ownsRow w.heap.size Wj 1 v' n ((zs.take n).map (Value.string))∧v'≠.slice none 0 0∧Below w.heap.size w w'
 Ld:∀(n c:Nat) (w:World),Calls L.P (L.num 208) #[.slice none n c] w fun e w'=>e=.returned (.slice none 0 0)∧w'=w
 Gt:∀(a:Addr) (c:Nat) (w:World),Calls L.P (L.num 208) #[.slice (some a) 0 c] w fun e w'=>∃v',e=.returned v'∧w'.ownsRow w.heap.size Wj 1 v' 0 []∧v'≠.slice none 0 0∧Below w.heap.size w w'
 st:∀w0 base,L.start w0 base→Q7<base∧∃m,w0.cell? ⟨Q7,0,none⟩=some (.int .i64 m)
theorem qF.WL (M:qF L):PD L where
 join:=fun ws sep h1 h2 H=>vO fun g w vs hs hr=>by
  obtain⟨v,u,rfl,r1,r2⟩:=JI hr;rw[iQ r2];obtain⟨a,c,rfl,hc,hcell⟩:=Jq hs r1;refine⟨_,.str _,?_⟩
  cases ws with
  |nil=>exact M.Ko a c _ w
  |cons s ws=>
   obtain⟨b,o,rfl,hb,hcell⟩:=hcell (by simp)
   have hmm:((s::ws).map fun s=>(⟨s.toArray⟩:ByteArray)).map (·.data.toList)=s::ws:=by
    rw[List.map_map];exact(List.map_congr_left (g:=id) fun x _=>by simp).trans (List.map_id _)
   have:=M.join b o c ((s::ws).map fun s=>⟨s.toArray⟩) ⟨sep.toArray⟩ w (fun j x hx=>by
    rw[List.getElem?_map]at hx
    cases hj:(s::ws)[j]? with
    |none=>rw[hj]at hx;cases hx
    |some y=>rw[hj]at hx;cases hx;exact hcell j y hj) hb (by simp at h2⊢;omega) (by simpa using hc) (by rw[hmm,CG,DL];omega)
   rw[hmm,CG,DL]at this;simpa using this
theorem Yc {f : Nat} {args : List au} {H : Heap} {xs : List au} {t : TypeId} (hk : ∀ x ∈ xs, x.cells.length = 1)
  (hc : ∀ g w vs, St L g w H → aX L g vs args → ∃ us, aX L g us (flat xs) ∧
   Calls L.P (L.num f) vs.toArray w fun e w' => ∃ v', e = .returned v' ∧ w'.ownsRow w.heap.size t 1 v' xs.length us ∧ Below w.heap.size w w') :
  aC L f args H fun r H' => r = .ret (.lst xs .none) ∧ H' = H := fun g w vs hs hr => by
 obtain ⟨us, h1, h2⟩ := hc g w vs hs hr
 refine h2.mono fun e w' ⟨v', e1, hown, hb⟩ => ?_
 have hs1 := hs.wider hb
 rcases hown.2 with ⟨rfl, h0⟩ | ⟨gb, cap, cur, rfl, hge, hblk, hcap, _, _, hcells⟩
 ·obtain rfl : xs = [] := List.eq_nil_of_length_eq_zero h0
  exact ⟨.ret (.lst [] .none), H, g, ⟨rfl, rfl⟩, aA.le.refl g, hs1, _, e1, .lst none 0 1 0 0 [] [] .none (fun h => absurd rfl h) (fun j v h => by simp at h) (by simp) (Nat.le_refl 0) trivial .nil⟩
 ·have hul : us.length = xs.length := by have := hown.1; omega
  have hkp : g.kp gb = none := by
   cases hq : g.kp gb with
   | none => rfl
   | some o => have := hs.OA hq; omega
  have hf : ∀ o, 0 ≤ o → o < 0 + us.length → g.fz gb o = none := fun o _ _ => by
   cases hq : g.fz gb o with
   | none => rfl
   | some v => have := hs.Gd hq; omega
  have hle := aA.nX hkp hf
  have h8 : St L (g.jc gb 0 us) w' H := hs1.pO hkp hf (fun j v hv => by
   rw [Nat.zero_add]
   have h3 : cur.toList[j]? = some v := by
    have h4 : (cur.toList.take (xs.length * 1))[j]? = some v := by rw [hcells]; exact hv
    rw [List.getElem?_take] at h4
    split at h4
    ·exact h4
    ·cases h4
   simp only [World.cell?, hblk, Option.isSome_none, Bool.false_eq_true, if_false]
   simpa using h3) (fun id o s _ _ hq => by have := hs.bnd _ _ _ hq; omega)
  exact ⟨.ret (.lst xs .none), H, _, ⟨rfl, rfl⟩, hle, h8, _, e1, .lst _ _ 1 gb 0 xs us .none (fun _ => rfl) (fun j v hv => aA.qj _ _ _ _ j v hv) hk hcap trivial (h1.mono hle)⟩
theorem qF.NA (M:qF L) (ns:List Bytes) (hn:ns.length≤2^40):Pure L 208 [.lst (aO ns) .none] (.lst (aO ns) .none):=fun H=>by
 refine Yc (t:=M.Wj) (fun x hx=>by
  simp only[aO,List.mem_map]at hx;obtain⟨s,_,rfl⟩:=hx
  rfl) fun g w vs hs hr=>?_
 obtain⟨v,rfl,h⟩:=JJ hr;obtain⟨a,c,rfl,hc,hcell⟩:=Jq hs h;have hl:(aO ns).length=ns.length:=by simp[aO]
 rw[sP,hl];refine⟨_,xO ns,?_⟩
 cases ns with
 |nil=>
  cases a with
  |none=>exact(M.Ld 0 c w).mono fun e w' ⟨e1,e2⟩=>⟨_,e1,⟨rfl,.inl ⟨rfl,rfl⟩⟩,e2▸Below.refl _ _⟩
  |some a=>exact(M.Gt a c w).mono fun e w' ⟨v',e1,e2,_,e3⟩=>⟨v',e1,e2,e3⟩
 |cons s ns=>
  obtain⟨b,o,rfl,hb,hcell⟩:=hcell (by simp)
  have h3:=M.clone b o (s::ns).length c ((s::ns).map fun s=>⟨s.toArray⟩) w (by simp) (by omega) (fun j hj=>by
   have hj':j<(s::ns).length:=by simpa using hj
   rw[hcell j (s::ns)[j] (List.getElem?_eq_getElem hj')]
   simp only[List.getD_eq_getElem?_getD,List.getElem?_map,List.getElem?_eq_getElem hj',Option.map_some,Option.getD_some])
  refine h3.mono fun e w' ⟨v',e1,e2,_,e3⟩=>⟨v',e1,?_,e3⟩
  rw[List.take_of_length_le (by simp),List.map_map]at e2;exact e2
theorem ixb (c:UInt8):∀l:Bytes,decide (Lib.indexByte l c≥0)=inA c l
 |[]=>rfl
 |b::l=>by
  have ih:=ixb c l;have hge:=Lib.indexByte_ge l c;unfold inA at ih⊢;rw[List.any_cons,Lib.indexByte,←ih];cases hb:(b==c)
  ·simp only[Bool.false_eq_true,if_false,Bool.false_or]
   by_cases h1:Lib.indexByte l c= -1
   ·rw[h1];rfl
   ·rw[if_neg (by simpa using h1)]
    have:Lib.indexByte l c≥0:=by omega
    rw[decide_eq_true this];exact decide_eq_true (by omega)
  ·simp
theorem qF.lex (M:qF L):VF L where
 idx:=fun c=>⟨Lib.indexByte lu c,ixb c lu,fun H=>vO fun g w vs hs hr=>by
  obtain⟨v,u,rfl,h1,h2⟩:=JI hr;rw[iQ h1,gG h2];refine⟨_,.int _ _,(M.indexByte _ _ w).mono fun e w' ⟨e1,e2⟩=>⟨?_,e2▸Below.refl _ _⟩⟩;rw[e1,CG]
  simp⟩
 cut:=fun c s hs0 H=>vO fun g w vs hs hr=>by
  obtain⟨v,u,rfl,h1,h2⟩:=JI hr;rw[iQ h1,iQ h2];obtain⟨q1,m,q2⟩:=M.st _ _ hs.fact;have hm:w.cell? ⟨M.Q7,0,none⟩=some (.int .i64 m):=(hs.below.cell (p:=⟨M.Q7,0,none⟩) q1).trans q2;refine⟨_,.tup [_,_,_] _ (.cons _ _ _ _ (.str _) (.cons _ _ _ _ (.str _) (.cons _ _ _ _ (.bool _) .nil))),(M.cut _ _ m w (by rw[sizeB];omega) hm).mono fun e w' ⟨e1,n,e2⟩=>⟨?_,e2▸below_drewN _ _⟩⟩;rw[e1,CG,CG,Yi]
end Go.Ag
/- The library's sorts: what they do to a row. -/
namespace Go.Ag
open Go Go.Sort Go.Proofs
open Go.RowKit (Below)
variable {L : Lnk} {g : aA} {w : World} {H : Heap}
theorem JG (hs:St L g w H) {id v t k:Nat} {xs ys:List au} {s:ko} {cur cur':Array Value} {w':World} (hH:H[id]?=some (.arr v xs t)) (hs':g.ob id v=some s) (hsk:s.k=k)
  (hcur:w.heap[s.b]?=some (.cells cur (L.ty t) (0,0))) (hcur':w'.heap[s.b]?=some (.cells cur' (L.ty t) (0,0))) (hsize:cur'.size=cur.size) (hy:∀y∈ys,y.cells.length=k) (hlen:ys.length=xs.length)
  (hother:∀b,b≠s.b→b<w.heap.size→w'.heap[b]?=w.heap[b]?) (hsz:w.heap.size≤w'.heap.size) (hos:w'.os=w.os) (htp:w'.tape=w.tape) (hout:w'.output=w.output)
  (hrep:aX L g (cur'.toList.take (ys.length*k)) (flat ys)):St L g w' (H.set id (.arr v ys t)):=by
 obtain⟨s0,cur0,e1,e0,e2,e3,e4,e5,e6,e7,e8,e9,e10⟩:=hs.obj id _ hH;rw[hs']at e1;cases e1;rw[hcur]at e4;cases e4
 exact hs.L8 (s1:=s) hH rfl hs' (aA.le.refl g) rfl rfl rfl (fun _ _ _=>rfl) (fun _ s2 h2=>.inl h2) (fun _=>hs') (.inl rfl) (Nat.lt_of_lt_of_le (hs.bnd _ _ _ hs') hsz) e9 (by rw[hcur];simp)
  hother hsz hos htp hout
  ⟨s,cur',hs',e0,e2,e3,hcur',hsize.trans e5,fun x hx=>by rw[hsk];exact hy x hx,by rw[hlen];exact e7,by rw[hsk];exact hrep,e9,e10⟩
theorem KM {w:World} {blk n:Nat} {f:Array Value→Array Value} {os:Array Obj} {cur:Array Value} {t:TypeId} (h:w.heap[blk]?=some (.cells cur t (0,0))):
  (grow (mapBlock (Sort.ahead w n) blk f) os).heap[blk]?=some (.cells (f cur) t (0,0)):=by
 have hlt:blk<w.heap.size:=(Array.getElem?_eq_some_iff.1 h).1;show(w.heap.modify blk (onCells f) ++os)[blk]?=_;rw[Array.getElem?_append_left (by simpa using hlt),Array.getElem?_modify,if_pos rfl,h];rfl
theorem Ga {w:World} {blk n b:Nat} {f:Array Value→Array Value} {os:Array Obj} (hb:b≠blk) (hlt:b<w.heap.size):
  (grow (mapBlock (Sort.ahead w n) blk f) os).heap[b]?=w.heap[b]?:=by
 show(w.heap.modify blk (onCells f) ++os)[b]?=_;rw[Array.getElem?_append_left (by simpa using hlt),Array.getElem?_modify,if_neg (Ne.symm hb)]
theorem D5 {w:World} {blk n:Nat} {f:Array Value→Array Value} {os:Array Obj}:w.heap.size≤(grow (mapBlock (Sort.ahead w n) blk f) os).heap.size:=by
 show w.heap.size≤(w.heap.modify blk (onCells f) ++os).size;rw[Array.size_append,Array.size_modify];omega
theorem xA {α:Type} [Inhabited α] (enc:α→Value) (d:Array α) (c:Array Value) (off:Nat):(putCells enc off d c).size=c.size:=by simp[putCells]
theorem xw {α:Type} [Inhabited α] (enc:α→Value) (d:Array α) (c:Array Value) (h:d.size≤c.size):(putCells enc 0 d c).toList.take d.size=d.toList.map enc:=by
 apply List.ext_getElem?;intro j;rw[List.getElem?_take];split
 ·rename_i hj
  simp only[putCells,Array.getElem?_toList,List.getElem?_map,Array.getElem?_mapIdx];rw[Array.getElem?_eq_getElem (by omega),Array.getElem?_eq_getElem hj];simp[hj]
 ·rename_i hj
  rw[List.getElem?_eq_none (by simp;omega)]
structure AB (L:Lnk):Prop where
 sort:∀(blk off cap:Nat) (ss:List Bytes) (w:World),Holds encStr w blk off ss.toArray→blk<w.heap.size→ss.length<4611686018427387904→
  Calls L.P (L.num 200) #[.slice (some ⟨blk,off,none⟩) ss.length cap] w fun e w'=>
   e=.returned (.tuple #[])∧∃n os,w'=grow (putRow encStr (Sort.ahead w n) blk off (ss.mergeSort fun x y=>decide (x≤y)).toArray) os
 none:∀(p:Option Addr) (cap:Nat) (w:World),Calls L.P (L.num 200) #[.slice p 0 cap] w fun e w'=>e=.returned (.tuple #[])∧w'=w
theorem AB.par (M:AB L):I7 L where
 CU:=fun H=>vO fun g w vs hs hr=>by
  obtain⟨v,rfl,h⟩:=JJ hr;obtain⟨a,c,k,b,o,vs,rfl,_⟩:=lS h;exact⟨_,.tup [] [] .nil,(M.none a c w).mono fun e w' ⟨e1,e2⟩=>⟨e1,e2▸Below.refl _ _⟩⟩
 sort:=fun l n id t H hH hn hne hl g w vs hs hr=>by
  obtain⟨v,rfl,h⟩:=JJ hr
  cases h with
  |vec _ _ _ _ _ c s hs' hsk hc hz=>
   obtain⟨s0,cur,e1,e0,e2,e3,e4,e5,e6,e7,e8,e9,e10⟩:=hs.obj id _ hH;rw[hs']at e1;cases e1;have hll:(aO l).length=l.length:=by simp[aO]
   rw[hsk,Nat.mul_one,hll]at e7 e8;rw[sP]at e8;have hcells:=Fv e8
   have Tt:Holds encStr w s.b 0 l.toArray:=fun j hj=>by
    have hj':j<l.length:=by simpa using hj
    have h3:cur.toList[j]?=some (.string ⟨l[j].toArray⟩):=by
     have:(cur.toList.take l.length)[j]?=some (.string ⟨l[j].toArray⟩):=by rw[hcells];simp[hj']
     rw[List.getElem?_take,if_pos hj']at this;exact this
    rw[Nat.zero_add];refine⟨?_,by simp[World.frozen?,e4]⟩;simp only[World.cell?,e4,Option.isSome_none,Bool.false_eq_true,if_false];rw[←Array.getElem?_toList,h3];simp[encStr,hj']
   have hcall:=M.sort s.b 0 c l w Tt (hs.bnd _ _ _ hs') (by omega);rw[hn];refine hcall.mono fun e w' ⟨he,m,os,hw⟩=>?_
   have hpl:(mZ l).length=l.length:=(tK l).length_eq
   have hst:St L g w' (H.set id (.arr n (aO (mZ l)) t)):=by
    rw[hw];refine JG hs hH hs' hsk e4 (KM e4) (xA _ _ _ _) (fun y hy=>?_) (by simp[aO,hpl]) (fun b hb hlt=>Ga hb hlt) D5 rfl rfl rfl ?_
    ·simp only[aO,List.mem_map]at hy
     obtain⟨s,_,rfl⟩:=hy;rfl
    ·rw[sP,Nat.mul_one]
     have h5:=xw encStr (mZ l).toArray cur (by simp[hpl];omega);have h6:(mZ l).toArray.size=(aO (mZ l)).length:=by simp[aO]
     rw[h6]at h5;show aX L g ((putCells encStr 0 (mZ l).toArray cur).toList.take _) _;rw[h5];exact xO _
   exact⟨.ret (.tup []),H.set id (.arr l.length (aO (mZ l)) t),g,⟨rfl,rfl⟩,aA.le.refl g,hn▸hst,_,he,.tup [] [] .nil⟩
end Go.Ag
/- The library's sort of keyed types by a comparing function: what it does to a row. -/
namespace Go.Ag
open Go Go.Sort Go.Proofs
open Go.RowKit (Below)
variable {L : Lnk} {g : aA} {w : World} {H : Heap}
def KV :Type:={q:List Value×Bytes//q.1.length=4∧∀v∈q.1,v.oneCell'=true}
instance : Inhabited KV := ⟨⟨([.bool false, .bool false, .bool false, .bool false], []), rfl, fun v hv => by simp at hv; subst hv; rfl⟩⟩
def rP (x:KV):List Value:=x.1.1 ++[.string ⟨x.1.2.toArray⟩]
theorem Ef (x:KV):(rP x).length=5:=by simp[rP,x.2.1]
theorem Uc (x:KV):∀v∈rP x,v.oneCell'=true:=fun v hv=>by
 rcases List.mem_append.1 hv with hv|hv
 ·exact x.2.2 v hv
 ·simp only[List.mem_singleton]at hv;subst hv;rfl
theorem Ea {α:Type} [Inhabited α] {enc:α→List Value} {k:Nat} (hk:∀x,(enc x).length=k):∀(l:List α) (j:Nat),j<l.length*k→(l.flatMap enc)[j]?=some ((enc (l[j/k]!))[j%k]!)
 |[],j,h=>by simp at h
 |x::l,j,h=>by
  have h0:0<k:=by
   rcases Nat.eq_zero_or_pos k with h'|h'
   ·subst h';simp at h
   ·exact h'
  rw[List.flatMap_cons];rcases Nat.lt_or_ge j k with hj|hj
  ·rw[List.getElem?_append_left (by rw[hk];exact hj),Nat.div_eq_of_lt hj,Nat.mod_eq_of_lt hj,List.getElem?_eq_getElem (by rw[hk];exact hj)]
   simp[hk,hj]
  ·rw[List.getElem?_append_right (by rw[hk];exact hj),hk]
   have h1:j-k<l.length*k:=by rw[List.length_cons,Nat.add_mul]at h;omega
   rw[Ea hk l (j-k) h1];have h2:j/k=(j-k)/k+1:=by rw[←Nat.sub_add_cancel hj,Nat.add_div_right _ h0];simp
   have h3:j%k=(j-k)%k:=by rw[Nat.mod_eq_sub_mod hj]
   rw[h2,h3];rfl
theorem Eb {α:Type} [Inhabited α] {enc:α→List Value} {k:Nat} (hk:∀x,(enc x).length=k) (d:Array α):(flatK enc k d).toList=d.toList.flatMap enc:=by
 have hl:(d.toList.flatMap enc).length=d.size*k:=by
  rw[List.length_flatMap,show d.toList.map (fun x=>(enc x).length)=d.toList.map fun _=>k from List.map_congr_left fun x _=>hk x,List.map_const',List.sum_replicate_nat,Array.length_toList]
 apply List.ext_getElem?;intro j;rcases Nat.lt_or_ge j (d.size*k)with hj|hj
 ·rw[Ea hk d.toList j (by simpa using hj)]
  rw[Array.getElem?_toList,Array.getElem?_eq_getElem (by simpa using hj)];have:=get_flatK enc k d j hj;rw[getElem!_pos _ j (by simpa using hj)]at this;rw[this];simp
  congr 2
  rw[getElem!_def];cases d[j/k]?<;>rfl
 ·rw[List.getElem?_eq_none (by simpa using hj),List.getElem?_eq_none (by rw[hl];exact hj)]
theorem FE {α β:Type} {f:α→β}:∀{l:List β} {zs:List α},(zs.map f).Perm l→∃zs',zs.Perm zs'∧zs'.map f=l
 |[],zs,h=>by
  have:zs=[]:=by simpa using h.eq_nil
  subst this;exact⟨[],.refl _,rfl⟩
 |y::l,zs,h=>by
  have hy:y∈zs.map f:=h.symm.subset List.mem_cons_self;obtain⟨z,hz,rfl⟩:=List.mem_map.1 hy;obtain⟨s,t,rfl⟩:=List.append_of_mem hz
  have h1:((s ++z::t).map f).Perm (f z::(s ++t).map f):=by
   simp only[List.map_append,List.map_cons];exact List.perm_middle
  have h2:((s ++t).map f).Perm l:=List.Perm.cons_inv (h1.symm.trans h);obtain⟨zs',e1,e2⟩:=FE h2;exact⟨z::zs',List.perm_middle.trans (e1.cons z),by rw[List.map_cons,e2]⟩
theorem Qz {us:List Value}:∀{xs:List (TA×Bytes)},aX L g us (flat (kvs xs))→∃zs:List (KV×(TA×Bytes)),zs.map (·.2)=xs∧us=(zs.map (·.1)).flatMap rP∧∀z∈zs,aX L g (rP z.1) (Kn z.2)∧z.1.1.2=z.2.2:=fun{xs} h=>by
 induction xs generalizing us with
 |nil=>cases h;exact⟨[],rfl,rfl,fun z hz=>by cases hz⟩
 |cons p xs ih=>
  obtain⟨⟨k,nm,ns,l⟩,s⟩:=p;rw[show flat (kvs ((TA.mk k nm ns l,s)::xs))=.int .i64 k::.str nm::.lst (aO ns) .none::.lst (TA.avs l) .none::.str s::flat (kvs xs)from rfl]at h
  cases h with|cons v0 _ _ _ h0 h=>
  cases h with|cons v1 _ _ _ h1 h=>
  cases h with|cons v2 _ _ _ h2 h=>
  cases h with|cons v3 _ _ _ h3 h=>
  cases h with|cons v4 _ vs _ h4 h=>
  obtain⟨zs,e1,e2,e3⟩:=ih h;have hs:=iQ h4;subst hs;refine⟨(⟨([v0,v1,v2,v3],s),rfl,fun v hv=>?_⟩,(.mk k nm ns l,s))::zs,by rw[List.map_cons,e1],?_,fun z hz=>?_⟩
  ·simp only[List.mem_cons,List.not_mem_nil,or_false]at hv
   rcases hv with rfl|rfl|rfl|rfl
   ·exact vB h0 rfl
   ·exact vB h1 rfl
   ·exact vB h2 rfl
   ·exact vB h3 rfl
  ·rw[List.map_cons,List.flatMap_cons,←e2];rfl
  ·rcases List.mem_cons.1 hz with rfl|hz
   ·exact⟨.cons _ _ _ _ h0 (.cons _ _ _ _ h1 (.cons _ _ _ _ h2 (.cons _ _ _ _ h3 (.cons _ _ _ _ h4 .nil)))),rfl⟩
   ·exact e3 z hz
theorem Kl :∀{zs:List (KV×(TA×Bytes))},(∀z∈zs,aX L g (rP z.1) (Kn z.2)∧z.1.1.2=z.2.2)→aX L g ((zs.map (·.1)).flatMap rP) (flat (kvs (zs.map (·.2))))
 |[],_=>.nil
 |z::zs,h=>by
  rw[List.map_cons,List.map_cons,List.flatMap_cons];exact((h z List.mem_cons_self).1).append (Kl fun y hy=>h y (List.mem_cons_of_mem _ hy))
structure sW (L:Lnk)where
 cf:Bytes→Bytes→Int
 lt:∀s t:Bytes,cf s t<0↔s<t
 sort:∀(blk off cap:Nat) (d:Array KV) (w:World),HoldsK rP 5 w blk off d→blk<w.heap.size→d.size<4611686018427387904→
  Calls L.P (L.num 252) #[.slice (some ⟨blk,off,none⟩) d.size cap,.func (.func (L.num 253)) #[] #[]] w fun e w'=>
   e=.returned (.tuple #[])∧∃d' n os,PermIn 0 d.size d d'∧SortedIn (fun x y=>decide (cf x.1.2 y.1.2<0)) 0 d.size d'∧w'=sortWorldK rP 5 w blk off n d' os
 none:∀(p:Option Addr) (cap:Nat) (fv:Value) (w:World),Calls L.P (L.num 252) #[.slice p 0 cap,fv] w fun e w'=>e=.returned (.tuple #[])∧w'=w
theorem sW.CU (M:sW L) (H:Heap):aC L 252 [.lst [] .nil,.fn (.func 253) [] []] H fun r H'=>r=.ret (.tup [])∧H'=H:=vO fun g w vs hs hr=>by
 obtain⟨v,u,rfl,h,_⟩:=JI hr;obtain⟨a,c,k,b,o,vs,rfl,_⟩:=lS h;exact⟨_,.tup [] [] .nil,(M.none a c u w).mono fun e w' ⟨e1,e2⟩=>⟨e1,e2▸Below.refl _ _⟩⟩
theorem sW.Qc (M:sW L) (xs:List (TA×Bytes)) (n id t:Nat) (H:Heap) (hH:H[id]?=some (.arr n (kvs xs) t)) (hn:n=xs.length) (hne:xs≠[]) (hl:n≤2^40):
  aC L 252 [.vec id n 5 0 n,.fn (.func 253) [] []] H fun r H'=>r=.ret (.tup [])∧∃ys:List (TA×Bytes),ys.Perm xs∧ys.Pairwise (fun a b=>a.2≤b.2)∧H'=H.set id (.arr n (kvs ys) t):=fun g w vs hs hr=>by
 obtain⟨v,u,rfl,h,hu⟩:=JI hr
 cases hu with|fn f _ fi ca _ _ hf h1 h2=>
 cases h1;cases h2
 cases f with
 |func f=>
  obtain⟨rfl,_⟩:=hf
  cases h with
  |vec _ _ _ _ _ c s hs' hsk hc hz=>
   obtain⟨s0,cur,e1,e0,e2,e3,e4,e5,e6,e7,e8,e9,e10⟩:=hs.obj id _ hH;rw[hs']at e1;cases e1;rw[hsk,jJ]at e7 e8;obtain⟨zs,f1,f2,f3⟩:=Qz e8;have hzl:zs.length=n:=by rw[hn,←f1];simp
   have hds:(zs.map (·.1)).toArray.size=n:=by simp[hzl]
   have hfl:(flatK rP 5 (zs.map (·.1)).toArray).toList=cur.toList.take (xs.length*5):=by rw[Eb Ef,f2]
   have hfs:(flatK rP 5 (zs.map (·.1)).toArray).size=xs.length*5:=by simp[hzl,hn]
   have Tt:HoldsK rP 5 w s.b 0 (zs.map (·.1)).toArray:=fun j hj=>by
    rw[hfs]at hj
    have h3:cur.toList[j]?=some ((flatK rP 5 (zs.map (·.1)).toArray)[j]!):=by
     have h4:(flatK rP 5 (zs.map (·.1)).toArray).toList[j]?=cur.toList[j]?:=by rw[hfl,List.getElem?_take,if_pos hj]
     rw[←h4,Array.getElem?_toList,Array.getElem?_eq_getElem (by rw[hfs];exact hj),getElem!_pos _ j (by rw[hfs];exact hj)]
    rw[Nat.zero_add];refine⟨?_,by simp[World.frozen?,e4]⟩;simp only[World.cell?,e4,Option.isSome_none,Bool.false_eq_true,if_false];rw[←Array.getElem?_toList,h3];rfl
   have hcall:=M.sort s.b 0 c _ w Tt (hs.bnd _ _ _ hs') (by rw[hds];omega);rw[hds]at hcall;refine hcall.mono fun e w' ⟨he,d',m,os,hp,hso,hw⟩=>?_
   obtain⟨p1,_,p3⟩:=hp;rw[hds]at p1
   have hperm:(zs.map (·.1)).Perm d'.toList:=by
    have e1:(d'.extract 0 n)=d':=by rw[←p1,Array.extract_size]
    have e2:((zs.map (·.1)).toArray.extract 0 n)=(zs.map (·.1)).toArray:=by
     conv=>lhs;rw[←hds]
     rw[Array.extract_size]
    rw[e1,e2]at p3;exact p3.symm
   obtain⟨zs',g1,g2⟩:=FE hperm;have f3':∀z∈zs',aX L g (rP z.1) (Kn z.2)∧z.1.1.2=z.2.2:=fun z hz=>f3 z (g1.symm.subset hz)
   have hzl':zs'.length=n:=by rw[←g1.length_eq,hzl]
   have hys:(zs'.map (·.2)).Perm xs:=by rw[←f1];exact(g1.symm.map _)
   have hd':d'=(zs'.map (·.1)).toArray:=by rw[g2]
   refine⟨.ret (.tup []),H.set id (.arr n (kvs (zs'.map (·.2))) t),g,⟨rfl,_,hys,?_,rfl⟩,aA.le.refl g,?_,_,he,.tup [] [] .nil⟩
   ·rw[List.pairwise_iff_getElem]
    intro i j hi hj hij;have hi':i<zs'.length:=by simpa using hi
    have hj':j<zs'.length:=by simpa using hj
    have h5:=hso i j (Nat.zero_le _) hij (by omega);rw[hd']at h5;have q1:(zs'.map (·.1)).toArray[i]! =zs'[i].1:=by rw[getElem!_pos _ i (by simpa using hi')];simp
    have q2:(zs'.map (·.1)).toArray[j]! =zs'[j].1:=by rw[getElem!_pos _ j (by simpa using hj')];simp
    rw[q1,q2]at h5;dsimp only at h5;rw[(f3' _ (List.getElem_mem hi')).2,(f3' _ (List.getElem_mem hj')).2]at h5;have h6:=of_decide_eq_false h5;have h7:¬zs'[j].2.2<zs'[i].2.2:=fun hh=>h6 ((M.lt _ _).2 hh)
    simpa using List.not_lt.1 h7
   ·rw[hw]
    have h7:sortWorldK rP 5 w s.b 0 m d' os=grow (mapBlock (Sort.ahead w m) s.b (putCells (_root_.id:Value→Value) 0 (flatK rP 5 d'))) os:=rfl;rw[h7];have hfs':(flatK rP 5 d').size=n*5:=by simp[p1]
    refine JG hs hH hs' hsk e4 (KM e4) (xA _ _ _ _) (fun y hy=>vH _ y hy) (by rw[jJ,jJ,List.length_map,hzl',hn]) (fun b hb hlt=>Ga hb hlt) D5 rfl rfl rfl ?_;rw[jJ,List.length_map,hzl'];have h8:=xw (_root_.id:Value→Value) (flatK rP 5 d') cur (by rw[hfs'];omega);rw[hfs',List.map_id,Eb Ef]at h8;rw[h8,hd'];exact Kl f3'
 |_=>exact absurd hf (by simp[LP])
end Go.Ag
/- The library's ParseInt of a text of digits: what the document's Number is. -/
namespace Go.Ag
open Go
open Go.RowKit (Below)
variable {L : Lnk}
def o9 (n:Nat) (c:UInt8):Nat:=n*10+(c.toNat-48)
theorem Sy {n:Nat} {c:UInt8} (h1:48≤c.toNat) (h2:c.toNat≤57) (hn:n<10^17):wz (n:Int) c=((o9 n c:Nat):Int):=by
 unfold wz o9;have e1:IntKind.u8.wrap ((c.toNat:Int)-48)=(c.toNat:Int)-48:=IntWalk.u8_in _ (by omega);rw[e1,IntWalk.i64_in (10*(n:Int)) (by omega),IntWalk.i64_in ((c.toNat:Int)-48) (by omega),IntWalk.i64_in _ (by omega)];omega
theorem JZ :∀(l:Bytes) (acc:Nat),(∀c∈l,48≤c.toNat∧c.toNat≤57)→l.length≤18→acc<10^(18-l.length)→
  Lib.parseUintM (2^64-1) acc l=.ok (l.foldl o9 acc)∧l.foldl wz (acc:Int)=((l.foldl o9 acc:Nat):Int)∧l.foldl o9 acc<10^18
 |[],acc,h,hl,ha=>⟨rfl,rfl,ha⟩
 |c::l,acc,h,hl,ha=>by
  obtain⟨h1,h2⟩:=h c (by simp);rw[List.length_cons]at hl ha;have e1:18-l.length=(18-(l.length+1))+1:=by omega
  have hp:10^(18-l.length)=10^(18-(l.length+1))*10:=by rw[e1,Nat.pow_succ]
  have hle:10^(18-(l.length+1))≤10^17:=Nat.pow_le_pow_right (by decide) (by omega);have ha2:o9 acc c<10^(18-l.length):=by unfold o9;omega
  obtain⟨k1,k2,k3⟩:=JZ l (o9 acc c) (fun d hd=>h d (by simp[hd])) (by omega) ha2;refine⟨?_,?_,k3⟩
  ·rw[Lib.parseUintM,if_pos ⟨h1,h2⟩,if_neg (by omega),if_neg (by omega)]
   exact k1
  ·rw[List.foldl_cons,Sy h1 h2 (by omega)]
   exact k2
theorem Qm {s:Bytes} (h:yT s):Lib.parseIntB 64 s=.ok (tZ s):=by
 obtain⟨h0,h1,h2⟩:=h;obtain⟨k1,k2,k3⟩:=JZ s 0 h2 h1 (Nat.pow_pos (by decide))
 cases s with
 |nil=>exact absurd rfl h0
 |cons c r=>
  obtain⟨c1,c2⟩:=h2 c (by simp);unfold Lib.parseIntB;simp only;rw[if_neg (by omega),show Lib.parseUintB 64 (c::r)=.ok ((c::r).foldl o9 0)from by unfold Lib.parseUintB;rw[if_neg (by simp)];exact k1];simp only;rw[if_neg (by omega),if_neg (by omega),if_neg (by omega)]
  congr 1
  exact k2.symm
structure I8 (L:Lnk)where
 t:TypeId
 parse:∀(s:ByteArray) (v:Int) (w:World),s.size≤9223372036854775806→Lib.parseIntB 64 s.data.toList=.ok v→
  Calls L.P (L.num 322) #[.string s,.int .i64 10,.int .i64 64] w fun e w'=>e=.returned (.tuple #[.int .i64 v,.nilIface])∧(w'=w∨∃z,w'=Lib.bytesWorld w t z)
theorem I8.lib (M:I8 L):VA L where
 num:=fun s hs H=>Rb fun g w vs hst hr=>by
  cases hr with
  |cons v _ vs' _ h0 hr=>
   cases hr with
   |cons v1 _ vs1 _ h1 hr=>
    cases hr with
    |cons v2 _ vs2 _ h2 hr=>
     cases hr;cases h0;cases h1;cases h2;have hl:=hs.2.1;refine(M.parse ⟨s.toArray⟩ (tZ s) w (by show s.toArray.size≤_;rw[List.size_toArray];omega) (by show Lib.parseIntB 64 s.toArray.toList=_;rw[List.toList_toArray];exact Qm hs)).mono fun e w' ⟨e1,e2⟩=>⟨⟨_,e1,.tup [_,_] _ (.cons _ _ _ _ (.int _ _) (.cons _ _ _ _ .eT .nil))⟩,?_⟩
     rcases e2 with rfl|⟨z,rfl⟩
     ·exact Below.refl _ _
     ·exact Lib.bytesWorld_below _ _ _
end Go.Ag
/- Types of long texts: how much they are by their sizes and their longest name; where heads come from. -/
namespace Go.Ag
open Go
variable {T : Tab} {L : Lnk} {by_ : List (Bytes × TA)} {e : dL} {C : List TA}
mutual
def Nm (m:Nat):TA→Prop
 |.mk k nm ns l=>nm.length≤m∧(∀n∈ns,n.length≤m)∧NmL m l
def NmL (m:Nat):List TA→Prop
 |[]=>True
 |t::l=>Nm m t∧NmL m l
end
theorem YV (hb:∀p∈by_,NT p.2) {t z:TA} (h:Spr by_ t z):NT t→z=jP∨z∈fq t∨z∈by_.flatMap fun p=>gZ p.2:=by
 have hp:∀{t:TA},t.kind≠7→fq t=[t]:=fun h=>if_neg h
 have hs:∀{t x:TA},NT t→x∈fq t→x∈gZ t:=fun{t x} hn h=>by
  obtain⟨k,nm,ns,l⟩:=t;unfold fq at h;split at h
  ·exact((oV _ (.mk k nm ns l) (Nat.le_refl _)).1 _ (pI _)).2 x h
  ·rw[List.mem_singleton]at h;subst h;exact pI _
 induction h with
 |self t h7 h8=>exact fun _=>.inr (.inl (by rw[hp h7];simp))
 |part nm ns l x y hx h ih=>
  intro hn;have hxn:=hn.parts x hx
  have hx7:x.kind≠7:=by
   cases hn with
   |uni l h2 h h7 hs=>exact(h7 x hx).1
  rcases ih hxn with h|h|h
  ·exact .inl h
  ·rw[hp hx7,List.mem_singleton]at h
   subst h;exact .inr (.inl (by rw[show fq (.mk 7 nm ns l)=l from if_pos rfl];exact hx))
  ·exact .inr (.inr h)
 |emp nm ns l h=>exact fun _=>.inl rfl
 |ref nm ns l y he h ih=>
  intro _;obtain⟨h1,p,hp1,h2⟩:=vF hb he;rcases ih h1 with h|h|h
  ·exact .inl h
  ·rw[h2]at h h1
   exact .inr (.inr (List.mem_flatMap.2 ⟨p,hp1,hs h1 h⟩))
  ·exact .inr (.inr h)
theorem EZ :∀{l B:List TA},l.Nodup→(∀x∈l,x∈B)→wtL l≤wtL B
 |[],B,_,_=>by simp[wtL]
 |t::l,B,hn,h=>by
  open Classical in
  rw[List.nodup_cons]at hn;have hp:=List.perm_cons_erase (h t (by simp));have e:wtL B=wtL (t::B.erase t):=by rw[tu,tu];exact(hp.map _).sum_nat
  rw[e,wtL,wtL]
  have:=EZ (l:=l) (B:=B.erase t) hn.2 fun x hx=>by
   refine(List.mem_erase_of_ne fun hxt=>?_).2 (h x (by simp[hx]));subst hxt;exact hn.1 hx
  omega
theorem SB (l:List (Bytes×TA)):(jA l).length≤l.length∧((jA l).map fun p=>szT p.2).sum≤jk l:=by
 have key:∀(l B:List (Bytes×TA)),(l.foldl ou B).length≤B.length+l.length∧((l.foldl ou B).map fun p=>szT p.2).sum≤(B.map fun p=>szT p.2).sum+jk l:=fun l=>by
  induction l with
  |nil=>intro B;simp[jk]
  |cons q l ih=>
   intro B;obtain⟨h1,h2⟩:=ih (ou B q)
   have h3:(ou B q).length≤B.length+1∧((ou B q).map fun p=>szT p.2).sum≤(B.map fun p=>szT p.2).sum+szT q.2:=by
    unfold ou;have:=Jl q.2;split
    ·omega
    ·rw[List.length_append,List.map_append,List.sum_append_nat];simp;omega
   unfold jk at h2⊢;rw[List.foldl_cons,List.length_cons,List.map_cons,List.sum_cons];omega
 have:=key l [];unfold jA;simpa using this
theorem Yf {m:Nat} (h:∀p∈by_,wtT p.2≤m) (hs:(by_.map fun p=>szT p.2).sum≤60):wtL (by_.flatMap fun p=>gZ p.2)≤60*(m+8):=by
 have h1:=YQ (l:=by_.flatMap fun p=>gZ p.2) (m:=m) fun t ht=>by
  obtain⟨p,hp,ht⟩:=List.mem_flatMap.1 ht;exact Nat.le_trans ((oV _ p.2 (Nat.le_refl _)).1 t ht).1 (h p hp)
 have h2:(by_.flatMap fun p=>gZ p.2).length=(by_.map fun p=>szT p.2).sum:=by
  clear h hs h1
  induction by_ with
  |nil=>rfl
  |cons p l ih=>rw[List.flatMap_cons,List.length_append,List.map_cons,List.sum_cons,ih,Jo]
 rw[h2]at h1;exact Nat.le_trans h1 (Nat.mul_le_mul_right _ hs)
end Go.Ag
/- Package cupellaw08: AliasOrder. -/
namespace Go.Ag
open Go
variable {T : Tab} {L : Lnk}
section congr
variable {b1 b2 : List (Bytes × TA)}
end congr
theorem GH.agree {e:dL} {H H':Heap} {a:Nat} (h:GH e H a) (ha:agree H.length H H'):GH e H' a:=by
 have key:∀{i:Nat} {o:aU},H[i]?=some o→((∀m t,o≠.tail m t)∧∀v xs t,o≠.arr v xs t)→o≠.dead→H'[i]?=some o:=fun{i o} h1 h2 h3=>by
  refine ha.2 i o ?_ h1 h2 h3;rcases Nat.lt_or_ge i H.length with h|h
  ·exact h
  ·rw[List.getElem?_eq_none h]at h1;cases h1
 exact⟨key h.h0 ⟨fun _ _=>by simp,fun _ _ _=>by simp⟩ (by simp),key h.h1 ⟨fun _ _=>by simp,fun _ _ _=>by simp⟩ (by simp),key h.h2 ⟨fun _ _=>by simp,fun _ _ _=>by simp⟩ (by simp)⟩
end Go.Ag
/- Unions: their heads are those of their parts together; Made, wherever it is called. -/
namespace Go.Ag
open Go
variable {T : Tab} {L : Lnk} {by_ : List (Bytes × TA)} {e : dL} {C : List TA}
theorem Yt (F:zI T) (src:Bytes) (hs:src.length≤600) (H:Heap):aC T.L 147 [.str src] H fun r H'=>∃e o0 o1,lq (jA (gK src)) e∧r=.ret (.tup [.ptr (H.length+4) 0,.lst (fV (gK src)) .none,.bool (decide ((gK src).length≤8))])∧
  H'=H ++[o0,o1,.map (cu e.by_ 0) e.by_.length,.map (gF e.empty 0) e.empty.length,.cells [.map (H.length+2),.map (H.length+3)] 234]:=by
 have hp:Part H [] []:=⟨by simp,rfl,fun k i o hk=>by cases hk⟩;have hf:=aC.mY (RG F src hs) [] hp (.inr fun r H' _=>Nat.zero_le _);refine hf.mono fun r H' ⟨r1,H1,⟨e,o0,o1,h1,l0,l1,h2,h3⟩,_,h4,h5⟩=>⟨e,o0,o1,h1,?_,?_⟩
 ·rw[h4,h2]
  simp only[zT]
  congr 1
  simp only[ren,iD];rw[jI (Nat.zero_le _)]
  congr 2
  have:=kF (ρ:=nameOf [] H.length) (show Low 0 (au.lst (fV (gK src)) .none)from .lst _ _ trivial (sK 0 _));simp only[ren]at this;rw[this]
 ·rw[h5,h3]
  simp only[List.length_nil,List.take_zero,List.map_nil,List.drop_zero,mG]
  congr 1
  simp only[List.map_cons,List.map_nil];rw[gD l0,gD l1,gD (show bI 0 (.map (cu e.by_ 0) e.by_.length)from dY 0 _ _),gD (show bI 0 (.map (gF e.empty 0) e.empty.length)from fA 0 _ _)];simp only[gV,iD,ren];rw[jI (Nat.zero_le _),jI (Nat.zero_le _)];rfl
theorem RH (F:zI T) (src:Bytes) (hs:600<src.length):Pure T.L 147 [.str src] (.tup [.eD,.lst [] .nil,.bool false]):=by
 refine Pure.run (dD (.str _)) (.tup _ (gq.at ⟨.eD,.lst _ _ trivial fK,.bool _,trivial⟩)) (aG F.TH (by simp[Po]) ?_);have h1:decide ((src.length:Int)>600)=true:=decide_eq_true (by omega);conv=>whnf
 rw[h1];conv=>whnf
 exact aH (Weak.refl _)
end Go.Ag
/- Package cupellaw08: AliasUnions. -/
namespace Go.Ag
open Go
variable {T : Tab} {L : Lnk}
end Go.Ag

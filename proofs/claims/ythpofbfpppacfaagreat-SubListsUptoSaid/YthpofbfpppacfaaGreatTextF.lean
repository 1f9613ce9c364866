/- Our texts, joined by a program of ours (join.py): part 6 of 8. -/
import Derived.Test.YthpofbfpppacfaaGreatTextE
import Derived.Deep.Draws
/- Abstract codes, printed by a program of ours (acode.py) out of the given program's form. -/
namespace Go.Ag
open Go
def c_144 : AFunc := (.mk 1 66 [(.tmp 2)] (.seq (.ops [(.mk (some 2) (.mv (.const .nilptr)) none)]) (.seq (.ops [(.mk (some 9) .mkMap none), (.mk (some 10) .mkMap none), (.mk (some 11) (.build [.nilmap, .nilmap] [(0, (1, (.tmp 9))), (1, (1, (.tmp 10)))]) none), (.mk (some 12) (.box 234 (.tmp 11)) none), (.mk (some 3) (.mv (.tmp 12)) none)]) (.seq (.seq (.ops [(.mk (some 13) (.mv (.tmp 0)) none), (.mk (some 14) (.lenL (.tmp 13)) none), (.mk (some 15) (.mv (.const (.int .i64 0))) none)]) (.block 0 (.loop (.seq (.ops [(.mk (some 16) (.bin .lss (.tmp 15) (.tmp 14)) none)]) (.seq (.cond (.tmp 16) .skip (.exit 0)) (.seq (.block 1 (.seq (.ops [(.mk (some 17) (.iaddr 5 (.tmp 13) (.tmp 15)) none), (.mk (some 18) (.load (some 5) (.tmp 17)) none), (.mk (some 5) (.alloc [(.str []), (.int .i64 0), (.str []), (.lst [] .nil), (.lst [] .nil)] 182) none), (.mk none (.store 5 (.tmp 5) (.tmp 18)) none)]) (.seq (.drawt [(.mk (some 20) (.mv (.tmp 3)) none), (.mk (some 21) (.nilck (.tmp 20)) none), (.mk (some 22) (.faddr 0 (.tmp 21)) none), (.mk (some 23) (.load none (.tmp 22)) none), (.mk (some 24) (.faddr 0 (.tmp 5)) none), (.mk (some 25) (.load none (.tmp 24)) none), (.mk (some 6) (.alloc [(.int .i64 0), (.str []), (.lst [] .nil), (.lst [] .nil)] 175) none)] (.alt (.mk (some 26) (.look 1 (.agg [(.int .i64 0), (.str []), (.lst [] .nil), (.lst [] .nil)]) true (.tmp 23) (.tmp 25)) none) [] (.alt (.mk (some 19) (.mv (.tmp 26)) none) [] (.alt (.mk (some 27) (.ext (.tmp 19) 0) none) [] (.alt (.mk (some 28) (.ext (.tmp 19) 1) none) [] (.alt (.mk none (.store 4 (.tmp 6) (.tmp 27)) none) [] (.alt (.mk (some 7) (.mv (.tmp 28)) none) [] .done .stop) .stop) (.alt (.mk none (.store 4 (.tmp 6) (.tmp 27)) none) [] (.alt (.mk (some 28) (.ext (.tmp 19) 1) none) [] (.alt (.mk (some 7) (.mv (.tmp 28)) none) [] .done .stop) .stop) .stop)) (.alt (.mk (some 28) (.ext (.tmp 19) 1) none) [] (.alt (.mk (some 27) (.ext (.tmp 19) 0) none) [] (.alt (.mk none (.store 4 (.tmp 6) (.tmp 27)) none) [] (.alt (.mk (some 7) (.mv (.tmp 28)) none) [] .done .stop) .stop) .stop) .stop)) .stop) .stop)) (.seq (.ops [(.mk (some 29) (.mv (.tmp 7)) none), (.mk (some 30) (.un .not (.tmp 29)) none)]) (.cond (.tmp 30) (.drawt [(.mk (some 31) (.mv (.tmp 3)) none), (.mk (some 32) (.nilck (.tmp 31)) none), (.mk (some 33) (.faddr 0 (.tmp 32)) none), (.mk (some 34) (.load none (.tmp 33)) none), (.mk (some 35) (.faddr 0 (.tmp 5)) none), (.mk (some 36) (.load none (.tmp 35)) none), (.mk (some 37) (.faddr 1 (.tmp 5)) none), (.mk (some 38) (.load (some 4) (.tmp 37)) none)] (.alt (.mk (some 39) (.call 186 [(.tmp 38)]) none) [(none, (.tmp 33)), (none, (.tmp 35))] (.alt (.mk none (.mupd 1 (.tmp 34) (.tmp 36) (.tmp 39)) none) [] .done .stop) .stop)) .skip))))) (.ops [(.mk (some 40) (.bin .add (.tmp 15) (.const (.int .i64 1))) none), (.mk (some 15) (.mv (.tmp 40)) none)]))))))) (.seq (.seq (.ops [(.mk (some 41) (.mv (.tmp 3)) none), (.mk (some 42) (.nilck (.tmp 41)) none), (.mk (some 43) (.faddr 0 (.tmp 42)) none), (.mk (some 44) (.load none (.tmp 43)) none), (.mk (some 45) (.mrange (.tmp 44)) none)]) (.block 2 (.loop (.seq (.ops [(.mk (some 46) (.mnext (.tmp 45)) none), (.mk (some 47) (.ext (.tmp 46) 0) none)]) (.seq (.cond (.tmp 47) .skip (.exit 2)) (.block 3 (.seq (.ops [(.mk (some 48) (.mentry (.tmp 45)) none), (.mk (some 49) (.ext (.tmp 48) 0) none), (.mk (some 8) (.mv (.tmp 49)) none)]) (.drawt [(.mk (some 50) (.mv (.tmp 3)) none), (.mk (some 51) (.nilck (.tmp 50)) none), (.mk (some 52) (.faddr 1 (.tmp 51)) none), (.mk (some 53) (.load none (.tmp 52)) none), (.mk (some 54) (.mv (.tmp 8)) none), (.mk (some 55) (.mv (.tmp 3)) none), (.mk (some 56) (.mv (.tmp 8)) none), (.mk (some 57) (.mv (.tmp 3)) none), (.mk (some 58) (.nilck (.tmp 57)) none), (.mk (some 59) (.faddr 0 (.tmp 58)) none), (.mk (some 60) (.load none (.tmp 59)) none), (.mk (some 61) (.mv (.tmp 8)) none)] (.alt (.mk (some 62) (.look 1 (.agg [(.int .i64 0), (.str []), (.lst [] .nil), (.lst [] .nil)]) false (.tmp 60) (.tmp 61)) none) [] (.alt (.mk (some 63) .mkMap none) [] (.alt (.mk (some 64) (.call 187 [(.tmp 55), (.tmp 56), (.tmp 62), (.tmp 63)]) none) [(none, (.tmp 52))] (.alt (.mk none (.mupd 1 (.tmp 53) (.tmp 54) (.tmp 64)) none) [] .done .stop) .stop) .stop) (.alt (.mk (some 63) .mkMap none) [] (.alt (.mk (some 62) (.look 1 (.agg [(.int .i64 0), (.str []), (.lst [] .nil), (.lst [] .nil)]) false (.tmp 60) (.tmp 61)) none) [] (.alt (.mk (some 64) (.call 187 [(.tmp 55), (.tmp 56), (.tmp 62), (.tmp 63)]) none) [(none, (.tmp 52))] (.alt (.mk none (.mupd 1 (.tmp 53) (.tmp 54) (.tmp 64)) none) [] .done .stop) .stop) .stop) .stop)))))))))) (.seq (.ops [(.mk (some 65) (.mv (.tmp 3)) none), (.mk (some 2) (.mv (.tmp 65)) none)]) .ret))))))
def c_225 : AFunc := (.mk 1 4 [(.tmp 2)] (.seq (.ops [(.mk (some 1) (.box 175 (.tmp 0)) none), (.mk (some 2) (.mv (.const .nilfn)) none)]) (.seq (.ops [(.mk (some 3) (.mkF (.func 257) [] [(.tmp 1)]) none), (.mk (some 2) (.mv (.tmp 3)) none)]) .ret)))
def c_257 : AFunc := (.mk 2 6 [] (.ops [(.mk (some 3) (.load (some 4) (.tmp 1)) none), (.mk (some 4) (.mv (.tmp 0)) none), (.mk (some 5) (.call 258 [(.tmp 3), (.tmp 4)]) none)]))
def c_258 : AFunc := (.mk 2 29 [(.tmp 4)] (.seq (.ops [(.mk (some 2) (.box 175 (.tmp 0)) none), (.mk (some 4) (.mv (.const (.bool false))) none)]) (.seq (.seq (.ops [(.mk (some 7) (.faddr 0 (.tmp 2)) none), (.mk (some 8) (.load none (.tmp 7)) none)]) (.block 0 (.seq (.ops [(.mk (some 10) (.bin .eql (.tmp 8) (.const (.int .i64 8))) none), (.mk (some 9) (.mv (.tmp 10)) none)]) (.cond (.tmp 9) (.seq (.ops [(.mk (some 11) (.mv (.tmp 1)) none), (.mk (some 12) (.faddr 1 (.tmp 2)) none), (.mk (some 13) (.load none (.tmp 12)) none), (.mk (some 14) (.callv (.tmp 11) [(.tmp 13)]) none), (.mk (some 4) (.mv (.tmp 14)) none)]) .ret) (.seq (.ops [(.mk (some 16) (.bin .eql (.tmp 8) (.const (.int .i64 7))) none), (.mk (some 15) (.mv (.tmp 16)) none)]) (.cond (.tmp 15) (.seq (.ops [(.mk (some 17) (.faddr 3 (.tmp 2)) none), (.mk (some 18) (.load none (.tmp 17)) none), (.mk (some 19) (.lenL (.tmp 18)) none), (.mk (some 20) (.mv (.const (.int .i64 0))) none)]) (.block 1 (.loop (.seq (.ops [(.mk (some 21) (.bin .lss (.tmp 20) (.tmp 19)) none)]) (.seq (.cond (.tmp 21) .skip (.exit 1)) (.seq (.block 2 (.seq (.ops [(.mk (some 22) (.iaddr 4 (.tmp 18) (.tmp 20)) none), (.mk (some 23) (.load (some 4) (.tmp 22)) none), (.mk (some 6) (.alloc [(.int .i64 0), (.str []), (.lst [] .nil), (.lst [] .nil)] 175) none), (.mk none (.store 4 (.tmp 6) (.tmp 23)) none)]) (.seq (.ops [(.mk (some 24) (.load (some 4) (.tmp 6)) none), (.mk (some 25) (.mv (.tmp 1)) none), (.mk (some 26) (.call 258 [(.tmp 24), (.tmp 25)]) none), (.mk (some 27) (.un .not (.tmp 26)) none)]) (.cond (.tmp 27) (.seq (.ops [(.mk (some 4) (.mv (.const (.bool false))) none)]) .ret) .skip)))) (.ops [(.mk (some 28) (.bin .add (.tmp 20) (.const (.int .i64 1))) none), (.mk (some 20) (.mv (.tmp 28)) none)]))))))) .skip)))))) (.seq (.ops [(.mk (some 4) (.mv (.const (.bool true))) none)]) .ret))))
def c_187 : AFunc := (.mk 4 31 [(.cell 8 none)] (.seq (.ops [(.mk (some 4) (.box 179 (.tmp 0)) none), (.mk (some 5) (.box 10 (.tmp 1)) none), (.mk (some 6) (.box 175 (.tmp 2)) none), (.mk (some 7) (.box 232 (.tmp 3)) none), (.mk (some 8) (.alloc [(.bool false)] 5) none)]) (.seq (.seq (.ops [(.mk (some 10) (.load (some 4) (.tmp 6)) none), (.mk (some 11) (.call 225 [(.tmp 10)]) none)]) (.block 0 (.rangeF (.tmp 11) [12] (.ops [(.mk (some 9) (.mv (.tmp 12)) none)]) (.block 1 (.seq (.seq (.ops [(.mk (some 13) (.mv (.tmp 9)) none), (.mk (some 14) (.load none (.tmp 5)) none), (.mk (some 15) (.bin .eql (.tmp 13) (.tmp 14)) none)]) (.cond (.tmp 15) (.seq (.ops [(.mk none (.store 1 (.tmp 8) (.const (.bool true))) none)]) .ret) .skip)) (.seq (.seq (.ops [(.mk (some 16) (.load none (.tmp 7)) none), (.mk (some 17) (.mv (.tmp 9)) none), (.mk (some 18) (.look 1 (.bool false) false (.tmp 16) (.tmp 17)) none)]) (.cond (.tmp 18) (.exit 1) .skip)) (.seq (.ops [(.mk (some 19) (.load none (.tmp 7)) none), (.mk (some 20) (.mv (.tmp 9)) none), (.mk none (.mupd 1 (.tmp 19) (.tmp 20) (.const (.bool true))) none)]) (.seq (.draw [(.mk (some 21) (.load none (.tmp 4)) none), (.mk (some 22) (.load none (.tmp 5)) none), (.mk (some 23) (.load none (.tmp 4)) none), (.mk (some 24) (.nilck (.tmp 23)) none), (.mk (some 25) (.faddr 0 (.tmp 24)) none), (.mk (some 26) (.load none (.tmp 25)) none), (.mk (some 27) (.mv (.tmp 9)) none), (.mk (some 29) (.load none (.tmp 7)) none)] [(.mk (some 28) (.look 1 (.agg [(.int .i64 0), (.str []), (.lst [] .nil), (.lst [] .nil)]) false (.tmp 26) (.tmp 27)) none), (.mk (some 30) (.call 187 [(.tmp 21), (.tmp 22), (.tmp 28), (.tmp 29)]) none)]) (.cond (.tmp 30) (.seq (.ops [(.mk none (.store 1 (.tmp 8) (.const (.bool true))) none)]) .ret) .skip))))))))) (.seq (.ops [(.mk none (.store 1 (.tmp 8) (.const (.bool false))) none)]) .ret))))
def c_153 : AFunc := (.mk 2 22 [(.cell 4 (some 4)), (.tmp 5)] (.seq (.ops [(.mk (some 4) (.alloc [(.int .i64 0), (.str []), (.lst [] .nil), (.lst [] .nil)] 175) none), (.mk (some 5) (.mv (.const (.bool false))) none)]) (.seq (.seq (.ops [(.mk (some 8) (.mv (.tmp 0)) none), (.mk (some 9) (.eqNil 2 false (.tmp 8)) none)]) (.cond (.tmp 9) (.seq (.ops [(.mk (some 10) (.build [(.int .i64 0), (.str []), (.lst [] .nil), (.lst [] .nil)] []) none), (.mk none (.store 4 (.tmp 4) (.tmp 10)) none), (.mk (some 5) (.mv (.const (.bool false))) none)]) .ret) .skip)) (.seq (.ops [(.mk (some 12) (.mv (.tmp 0)) none), (.mk (some 13) (.nilck (.tmp 12)) none), (.mk (some 14) (.faddr 0 (.tmp 13)) none), (.mk (some 15) (.load none (.tmp 14)) none), (.mk (some 16) (.mv (.tmp 1)) none), (.mk (some 17) (.look 1 (.agg [(.int .i64 0), (.str []), (.lst [] .nil), (.lst [] .nil)]) true (.tmp 15) (.tmp 16)) none), (.mk (some 11) (.mv (.tmp 17)) none), (.mk (some 18) (.ext (.tmp 11) 0) none), (.mk (some 19) (.ext (.tmp 11) 1) none), (.mk (some 6) (.alloc [(.int .i64 0), (.str []), (.lst [] .nil), (.lst [] .nil)] 175) none), (.mk none (.store 4 (.tmp 6) (.tmp 18)) none), (.mk (some 7) (.mv (.tmp 19)) none)]) (.seq (.ops [(.mk (some 20) (.load (some 4) (.tmp 6)) none), (.mk (some 21) (.mv (.tmp 7)) none), (.mk none (.store 4 (.tmp 4) (.tmp 20)) none), (.mk (some 5) (.mv (.tmp 21)) none)]) .ret)))))
def c_146 : AFunc := (.mk 2 21 [(.tmp 4)] (.seq (.ops [(.mk (some 4) (.mv (.const (.bool false))) none)]) (.seq (.seq (.ops [(.mk (some 8) (.mv (.tmp 0)) none), (.mk (some 9) (.mv (.tmp 1)) none), (.mk (some 10) (.call 153 [(.tmp 8), (.tmp 9)]) none), (.mk (some 7) (.mv (.tmp 10)) none), (.mk (some 11) (.ext (.tmp 7) 0) none), (.mk (some 12) (.ext (.tmp 7) 1) none), (.mk (some 5) (.alloc [(.int .i64 0), (.str []), (.lst [] .nil), (.lst [] .nil)] 175) none), (.mk none (.store 4 (.tmp 5) (.tmp 11)) none), (.mk (some 6) (.mv (.tmp 12)) none)]) (.seq (.ops [(.mk (some 13) (.mv (.tmp 6)) none), (.mk (some 14) (.un .not (.tmp 13)) none)]) (.cond (.tmp 14) (.seq (.ops [(.mk (some 4) (.mv (.const (.bool true))) none)]) .ret) .skip))) (.seq (.ops [(.mk (some 15) (.mv (.tmp 0)) none), (.mk (some 16) (.nilck (.tmp 15)) none), (.mk (some 17) (.faddr 1 (.tmp 16)) none), (.mk (some 18) (.load none (.tmp 17)) none), (.mk (some 19) (.mv (.tmp 1)) none), (.mk (some 20) (.look 1 (.bool false) false (.tmp 18) (.tmp 19)) none), (.mk (some 4) (.mv (.tmp 20)) none)]) .ret))))
def c_226 : AFunc := (.mk 2 45 [(.tmp 4)] (.seq (.ops [(.mk (some 3) (.box 175 (.tmp 1)) none), (.mk (some 4) (.mv (.const (.lst [] .nil))) none)]) (.seq (.seq (.ops [(.mk (some 8) (.faddr 0 (.tmp 3)) none), (.mk (some 9) (.load none (.tmp 8)) none)]) (.block 0 (.seq (.ops [(.mk (some 11) (.bin .eql (.tmp 9) (.const (.int .i64 8))) none), (.mk (some 10) (.mv (.tmp 11)) none)]) (.cond (.tmp 10) (.seq (.seq (.ops [(.mk (some 12) (.mv (.tmp 0)) none), (.mk (some 13) (.faddr 1 (.tmp 3)) none), (.mk (some 14) (.load none (.tmp 13)) none), (.mk (some 15) (.call 146 [(.tmp 12), (.tmp 14)]) none)]) (.cond (.tmp 15) (.seq (.ops [(.mk (some 16) (.build [(.int .i64 0), (.str []), (.lst [] .nil), (.lst [] .nil)] [(0, (1, (.const (.int .i64 4))))]) none), (.mk (some 17) (.lit 4 72 [] 1 [(0, (.tmp 16))]) none), (.mk (some 4) (.mv (.tmp 17)) none)]) .ret) .skip)) (.seq (.draw [(.mk (some 18) (.mv (.tmp 0)) none), (.mk (some 19) (.mv (.tmp 0)) none), (.mk (some 20) (.nilck (.tmp 19)) none), (.mk (some 21) (.faddr 0 (.tmp 20)) none), (.mk (some 22) (.load none (.tmp 21)) none), (.mk (some 23) (.faddr 1 (.tmp 3)) none), (.mk (some 24) (.load none (.tmp 23)) none)] [(.mk (some 25) (.look 1 (.agg [(.int .i64 0), (.str []), (.lst [] .nil), (.lst [] .nil)]) false (.tmp 22) (.tmp 24)) none), (.mk (some 26) (.call 226 [(.tmp 18), (.tmp 25)]) none), (.mk (some 4) (.mv (.tmp 26)) none)]) .ret)) (.seq (.ops [(.mk (some 28) (.bin .eql (.tmp 9) (.const (.int .i64 7))) none), (.mk (some 27) (.mv (.tmp 28)) none)]) (.cond (.tmp 27) (.seq (.ops [(.mk (some 5) (.mv (.const (.lst [] .nil))) none)]) (.seq (.seq (.ops [(.mk (some 29) (.faddr 3 (.tmp 3)) none), (.mk (some 30) (.load none (.tmp 29)) none), (.mk (some 31) (.lenL (.tmp 30)) none), (.mk (some 32) (.mv (.const (.int .i64 0))) none)]) (.block 1 (.loop (.seq (.ops [(.mk (some 33) (.bin .lss (.tmp 32) (.tmp 31)) none)]) (.seq (.cond (.tmp 33) .skip (.exit 1)) (.seq (.block 2 (.seq (.ops [(.mk (some 34) (.iaddr 4 (.tmp 30) (.tmp 32)) none), (.mk (some 35) (.load (some 4) (.tmp 34)) none), (.mk (some 7) (.alloc [(.int .i64 0), (.str []), (.lst [] .nil), (.lst [] .nil)] 175) none), (.mk none (.store 4 (.tmp 7) (.tmp 35)) none)]) (.ops [(.mk (some 36) (.mv (.tmp 5)) none), (.mk (some 37) (.mv (.tmp 0)) none), (.mk (some 38) (.load (some 4) (.tmp 7)) none), (.mk (some 39) (.call 226 [(.tmp 37), (.tmp 38)]) none), (.mk (some 40) (.append 4 72 175 (.tmp 36) (.tmp 39)) none), (.mk (some 5) (.mv (.tmp 40)) none)]))) (.ops [(.mk (some 41) (.bin .add (.tmp 32) (.const (.int .i64 1))) none), (.mk (some 32) (.mv (.tmp 41)) none)]))))))) (.seq (.ops [(.mk (some 42) (.mv (.tmp 5)) none), (.mk (some 4) (.mv (.tmp 42)) none)]) .ret))) .skip)))))) (.seq (.ops [(.mk (some 43) (.load (some 4) (.tmp 3)) none), (.mk (some 44) (.lit 4 72 [] 1 [(0, (.tmp 43))]) none), (.mk (some 4) (.mv (.tmp 44)) none)]) .ret))))
def c_188 : AFunc := (.mk 2 10 [(.cell 4 (some 4))] (.seq (.ops [(.mk (some 3) (.box 175 (.tmp 1)) none), (.mk (some 4) (.alloc [(.int .i64 0), (.str []), (.lst [] .nil), (.lst [] .nil)] 175) none)]) (.seq (.ops [(.mk (some 5) (.mv (.tmp 0)) none), (.mk (some 6) (.load (some 4) (.tmp 3)) none), (.mk (some 7) (.call 186 [(.tmp 6)]) none), (.mk (some 8) (.call 226 [(.tmp 5), (.tmp 7)]) none), (.mk (some 9) (.call 151 [(.tmp 8)]) none), (.mk none (.store 4 (.tmp 4) (.tmp 9)) none)]) .ret)))
def c_149 : AFunc := (.mk 2 16 [(.tmp 4)] (.seq (.ops [(.mk (some 3) (.box 175 (.tmp 1)) none), (.mk (some 4) (.mv (.const (.lst [] .nil))) none)]) (.seq (.ops [(.mk (some 6) (.mv (.tmp 0)) none), (.mk (some 7) (.load (some 4) (.tmp 3)) none), (.mk (some 8) (.call 188 [(.tmp 6), (.tmp 7)]) none), (.mk (some 5) (.alloc [(.int .i64 0), (.str []), (.lst [] .nil), (.lst [] .nil)] 175) none), (.mk none (.store 4 (.tmp 5) (.tmp 8)) none)]) (.seq (.seq (.ops [(.mk (some 9) (.faddr 0 (.tmp 5)) none), (.mk (some 10) (.load none (.tmp 9)) none), (.mk (some 11) (.bin .eql (.tmp 10) (.const (.int .i64 7))) none)]) (.cond (.tmp 11) (.seq (.ops [(.mk (some 12) (.faddr 3 (.tmp 5)) none), (.mk (some 13) (.load none (.tmp 12)) none), (.mk (some 4) (.mv (.tmp 13)) none)]) .ret) .skip)) (.seq (.ops [(.mk (some 14) (.load (some 4) (.tmp 5)) none), (.mk (some 15) (.lit 4 72 [] 1 [(0, (.tmp 14))]) none), (.mk (some 4) (.mv (.tmp 15)) none)]) .ret)))))
end Go.Ag
/- Package alias: what reads an environment. -/
set_option linter.unusedVariables false
namespace Go.Ag
open Go

variable {T : Tab} {L : Lnk}

structure EnvA where
  by_ : List (Bytes × TA)
  empty : List (Bytes × Bool)
def entsE : List (Bytes × Bool) → Nat → List (AVal × AVal × Nat)
  | [], _ => []
  | p :: l, k => (.str p.1, .bool p.2, k) :: entsE l (k + 1)
def eheap (e : EnvA) : Heap := [.map (entsT e.by_ 0) e.by_.length, .map (entsE e.empty 0) e.empty.length, .cells [.map 0, .map 1] 234]
theorem entsE_low (n : Nat) : ∀ (l : List (Bytes × Bool)) (k : Nat), ∀ e ∈ entsE l k, Low n e.1 ∧ Low n e.2.1
  | [], k, e, h => by cases h
  | p :: l, k, e, h => by
    rcases List.mem_cons.1 h with rfl | h
    · exact ⟨.str _, .bool _⟩
    · exact entsE_low n l (k + 1) e h
theorem low_eheap (e : EnvA) : ∀ o ∈ eheap e, LowO 3 o :=
  LowHs.at ⟨entsT_low 3 _ _, entsE_low 3 _ _, lowC ⟨.map _ (by decide : 0 < 3), .map _ (by decide : 1 < 3), trivial⟩, trivial⟩

def EK (L : Lnk) (f : Nat) (args : List AVal) (e : EnvA) (y : AVal) : Prop := CallK L f (.ptr 2 0 :: args) (eheap e) y (eheap e)

theorem EK.of {f : Nat} {args : List AVal} {e : EnvA} {y : AVal} (k : Nat) (hy : Low 3 y) (h : ACalls L f (.ptr 2 0 :: args) (eheap e ++ List.replicate k .dead) fun r H' => ∃ x J, r = .ret x ∧ Weak L x y ∧ H' = eheap e ++ J) : EK L f args e y :=
  CallK.of k rfl hy (low_eheap e) (h.mono fun r H' ⟨x, J, e1, e2, e3⟩ => ⟨x, eheap e, J, e1, e2, e3, rfl, fun i x y h1 h2 => by rw [h1] at h2; cases h2; exact WeakO.refl x⟩)
theorem EK.to {f : Nat} {args : List AVal} {e : EnvA} {y : AVal} (h : EK L f args e y) (hargs : ∀ x ∈ args, Low 3 x) (hy : Low 3 y) {H : Heap} {K KP : AVal → Heap → Prop} (J : Heap) (hH : H = eheap e ++ J) (hk : K y (eheap e ++ J)) : ACalls L f (.ptr 2 0 :: args) H (contR K KP) :=
  CallK.to h rfl (fun x hx => by
    rcases List.mem_cons.1 hx with rfl | hx
    · exact .ptr _ _ (show 2 < 3 by decide)
    · exact hargs x hx) (low_eheap e) hy (low_eheap e) J hH hk

def defA (e : EnvA) (nm : Bytes) : Option TA := (e.by_.find? (·.1 == nm)).map (·.2)

theorem look_def {H : Heap} {id c : Nat} {l : List (Bytes × TA)} (h : H[id]? = some (.map (entsT l 0) c)) (nm : Bytes) (z : AVal) :
    lookM 1 z true H (.map id) (.str nm) = some (.tup [((l.find? (·.1 == nm)).map (·.2.av)).getD z, .bool (l.find? (·.1 == nm)).isSome]) := by
  simp only [lookM, entsOf, h, findT, Option.map_some, lookV]
  have h2 : (l.findIdx? (·.1 == nm)).isSome = (l.find? (·.1 == nm)).isSome := by
    rw [List.findIdx?_isSome, Bool.eq_iff_iff, List.any_eq_true, List.find?_isSome]
  cases hf : l.find? (·.1 == nm) with
  | none =>
    rw [hf] at h2
    cases hg : l.findIdx? (·.1 == nm) with
    | none => rfl
    | some j => rw [hg] at h2; cases h2
  | some p =>
    rw [hf] at h2
    cases hg : l.findIdx? (·.1 == nm) with
    | none => rw [hg] at h2; cases h2
    | some j => rfl

end Go.Ag
/- Package alias: Def, Empty. -/
set_option linter.unusedVariables false
namespace Go.Ag
open Go

variable {T : Tab} {L : Lnk}

structure AliFns (T : Tab) : Prop extends TypFns T where
  h153 : T.has 153 c_153
  h146 : T.has 146 c_146
  h226 : T.has 226 c_226
  h188 : T.has 188 c_188
  h149 : T.has 149 c_149

def defP (e : EnvA) (nm : Bytes) : TA × Bool := match defA e nm with
  | some t => (t, true)
  | none => (zeroT, false)

theorem def_spec (F : AliFns T) (e : EnvA) (nm : Bytes) : EK T.L 153 [.str nm] e (.tup [(defP e nm).1.av, .bool (defP e nm).2]) := by
  refine EK.of 0 (.tup _ (LowL.at ⟨low_ta _ _, .bool _, trivial⟩)) (acallsG F.h153 (by simp [c_153]) ?_)
  have hP := defP.eq_1 e nm
  unfold defA at hP
  generalize defP e nm = R at hP ⊢
  conv => whnf
  rw [look_def (l := e.by_) (c := e.by_.length) ?_]
  · cases hf : e.by_.find? (·.1 == nm) with
    | none =>
      rw [hf] at hP
      have hP : R = (zeroT, false) := hP
      subst hP
      conv => whnf
      exact ⟨_, _, rfl, Weak.tup ⟨weak_zeroT, Weak.refl _, trivial⟩, rfl⟩
    | some p =>
      rw [hf] at hP
      obtain ⟨pn, ⟨k, tn, ts, tl⟩⟩ := p
      have hP : R = (.mk k tn ts tl, true) := hP
      subst hP
      conv => whnf
      exact ⟨_, _, rfl, Weak.tup ⟨Weak.refl _, Weak.refl _, trivial⟩, rfl⟩
  · rfl

theorem findE : ∀ (l : List (Bytes × Bool)) (nm : Bytes) (k i : Nat), findM 1 (.str nm) (entsE l k) i = some ((l.findIdx? (·.1 == nm)).map fun j => (i + j, ((l.find? (·.1 == nm)).map fun p => AVal.bool p.2).getD .undef))
  | [], nm, k, i => rfl
  | p :: l, nm, k, i => by
    rw [entsE, findM, keyEq]
    cases h : (nm == p.1)
    · dsimp only
      rw [findE l nm (k + 1) (i + 1), List.findIdx?_cons, List.find?_cons, show (p.1 == nm) = false from by rw [Bool.beq_comm]; exact h]
      cases l.findIdx? (·.1 == nm) with
      | none => rfl
      | some j => simp; omega
    · dsimp only
      rw [List.findIdx?_cons, List.find?_cons, show (p.1 == nm) = true from by rw [Bool.beq_comm]; exact h]
      rfl
def lookE (l : List (Bytes × Bool)) (nm : Bytes) : Bool := ((l.find? (·.1 == nm)).map (·.2)).getD false
theorem look_emp {H : Heap} {id c : Nat} {l : List (Bytes × Bool)} (h : H[id]? = some (.map (entsE l 0) c)) (nm : Bytes) :
    lookM 1 (.bool false) false H (.map id) (.str nm) = some (.bool (lookE l nm)) := by
  simp only [lookM, entsOf, h, findE, Option.map_some, lookV]
  unfold lookE
  have h2 : (l.findIdx? (·.1 == nm)).isSome = (l.find? (·.1 == nm)).isSome := by
    rw [List.findIdx?_isSome, Bool.eq_iff_iff, List.any_eq_true, List.find?_isSome]
  cases hf : l.find? (·.1 == nm) with
  | none =>
    rw [hf] at h2
    cases hg : l.findIdx? (·.1 == nm) with
    | none => rfl
    | some j => rw [hg] at h2; cases h2
  | some p =>
    rw [hf] at h2
    cases hg : l.findIdx? (·.1 == nm) with
    | none => rw [hg] at h2; cases h2
    | some j => rfl

def emptyP (e : EnvA) (nm : Bytes) : Bool := if (defP e nm).2 then lookE e.empty nm else true

theorem empty_spec (F : AliFns T) (e : EnvA) (nm : Bytes) : EK T.L 146 [.str nm] e (.bool (emptyP e nm)) := by
  have hd := def_spec F e nm
  refine EK.of 0 (.bool _) (acallsG F.h146 (by simp [c_146]) ?_)
  unfold emptyP
  generalize defP e nm = q at hd ⊢
  obtain ⟨⟨k, tn, ts, tl⟩, b⟩ := q
  conv => whnf
  refine hd.to (low1 (.str _)) (.tup _ (LowL.at ⟨low_ta _ _, .bool _, trivial⟩)) _ rfl ?_
  cases b
  · conv => whnf
    exact ⟨_, _, rfl, Weak.refl _, rfl⟩
  · conv => whnf
    rw [look_emp (l := e.empty) (c := e.empty.length) ?_]
    · conv => whnf
      exact ⟨_, _, rfl, Weak.refl _, rfl⟩
    · rfl

end Go.Ag
/- Package alias: spread. -/
set_option linter.unusedVariables false
namespace Go.Ag
open Go

variable {T : Tab} {L : Lnk}

def dynT : TA := .mk 4 [] [] []
mutual
def spreadF (e : EnvA) : Nat → TA → Option (List TA)
  | 0, _ => none
  | n + 1, .mk k nm ns l => if k = 8 then (if emptyP e nm = true then some [dynT] else spreadF e n (defP e nm).1) else if k = 7 then spreadsF e n l else some [.mk k nm ns l]
def spreadsF (e : EnvA) : Nat → List TA → Option (List TA)
  | 0, _ => none
  | n + 1, [] => some []
  | n + 1, t :: l => match spreadF e n t, spreadsF e n l with
    | some xs, some ys => some (xs ++ ys)
    | _, _ => none
end

theorem Weak.lstW {xs ys : List AVal} {tk : Tok} (hl : xs.length = ys.length) (hk : ∀ k, (∀ x ∈ xs, x.cells.length = k) → ∀ y ∈ ys, y.cells.length = k) (h : WeakL L (flat xs) (flat ys)) : Weak L (.lst xs tk) (.lst ys .none) := fun g v hv => by
  cases hv with
  | lst a c k b o _ vs _ ha hf hk' hc ht hr =>
    rw [hl]
    exact .lst a c k b o ys vs .none (fun hy => ha (fun e => hy (by subst e; exact List.eq_nil_of_length_eq_zero hl.symm))) hf (hk k hk') (by omega) trivial (hr.weak h)

theorem weak_dyn {t1 t2 tk : Tok} : Weak L (.lst [.agg [.int .i64 4, .str [], .lst [] t1, .lst [] t2]] tk) (.lst (TA.avs [dynT]) .none) := by
  have e : TA.avs [dynT] = [.agg [.int .i64 4, .str [], .lst [] .none, .lst [] .none]] := rfl
  rw [e]
  refine Weak.lstW rfl (fun k h y hy => ?_) ⟨Weak.refl _, Weak.refl _, Weak.tok _ _, Weak.tok _ _, trivial⟩
  simp only [List.mem_singleton] at hy
  subst hy
  have := h _ (List.mem_singleton.2 rfl)
  exact this

theorem len_wtL : ∀ m : List TA, m.length ≤ wtL m
  | [] => by simp
  | t :: m => by
    have := len_wtL m
    rw [wtL, List.length_cons]; omega

theorem spread_spec (F : AliFns T) (e : EnvA) (hE : ∀ p ∈ e.by_, wtT p.2 ≤ 2 ^ 40) : ∀ (n : Nat) (t : TA) (ys : List TA), spreadF e n t = some ys → ys.length ≤ 2 ^ 30 → wtT t ≤ 2 ^ 40 → EK T.L 226 [t.av] e (.lst (TA.avs ys) .none) :=
  fun n => Nat.strongRecOn n fun n ihs => by
   cases n with
   | zero => intro t ys h; rw [spreadF] at h; cases h
   | succ n =>
    intro t ys h hlen hwt
    have ih := ihs n (Nat.lt_succ_self n)
    obtain ⟨k, nm, ns, l⟩ := t
    rw [wtT] at hwt
    have hll := len_wtL l
    rw [spreadF] at h
    refine EK.of 1 (.lst _ _ trivial (low_tas 3 ys)) (acallsG F.h226 (by simp [c_226]) ?_)
    conv => whnf
    cases h8 : (k == 8)
    · rw [if_neg (by simpa using h8)] at h
      conv => whnf
      cases h7 : (k == 7)
      · rw [if_neg (by simpa using h7)] at h
        cases h
        conv => whnf
        exact ⟨_, _, rfl, Weak.tok _ _, rfl⟩
      · rw [if_pos (by simpa using h7)] at h
        conv => whnf
        intro I hI hG
        have key : ∀ (d j m : Nat) (dn rest : List TA) (e2 : Env), l.length - j = d → j ≤ l.length → m ≤ n → spreadsF e m (l.drop j) = some rest → ys = dn ++ rest →
            I (setL e2 [(0, .ptr 2 0), (5, .lst (TA.avs dn) (dtok (TA.avs dn).length 3)), (30, .lst (TA.avs l) .none), (31, .int .i64 l.length), (32, .int .i64 j)]) (eheap e ++ [dobj (TA.avs dn).length 175, tcell (.mk k nm ns l)]) := by
          intro d
          induction d with
          | zero =>
            intro j m dn rest e2 hd hj hm hsp hys
            have hjl : j = l.length := by omega
            rw [hjl, List.drop_length] at hsp
            have hrest : rest = [] := by
              cases m with
              | zero => rw [spreadsF] at hsp; cases hsp
              | succ m => rw [spreadsF] at hsp; cases hsp; rfl
            subst hrest
            rw [List.append_nil] at hys
            subst hys
            apply hI
            conv => whnf
            rw [lt_false (by omega)]
            conv => whnf
            exact ⟨_, _, rfl, Weak.tok _ _, rfl⟩
          | succ d ihd =>
            intro j m dn rest e2 hd hj hm hsp hys
            have hjl : j < l.length := by omega
            rw [List.drop_eq_getElem_cons hjl] at hsp
            obtain ⟨m', rfl⟩ : ∃ m', m = m' + 1 := by
              cases m with
              | zero => rw [spreadsF] at hsp; cases hsp
              | succ m' => exact ⟨m', rfl⟩
            rw [spreadsF] at hsp
            have hget := tas_at' hjl
            cases hx : spreadF e m' l[j] with
            | none => rw [hx] at hsp; cases hsp
            | some xs =>
              cases hr : spreadsF e m' (l.drop (j + 1)) with
              | none => rw [hx, hr] at hsp; cases hsp
              | some rest' =>
                rw [hx, hr] at hsp
                have hrest : xs ++ rest' = rest := Option.some.inj hsp
                have hlx : dn.length + xs.length + rest'.length ≤ 2 ^ 30 := by
                  rw [hys, ← hrest] at hlen
                  simp only [List.length_append] at hlen
                  omega
                have hc := ihs m' (by omega) l[j] xs hx (by omega) (by have := wtL_mem (List.getElem_mem hjl); omega)
                have hnext := fun e2 => ihd (j + 1) m' (dn ++ xs) rest' e2 (by omega) hjl (by omega) hr (by rw [hys, ← hrest, List.append_assoc])
                generalize l[j] = v at hget hc
                obtain ⟨vk, vn, vs, vl⟩ := v
                have hlow : ∀ x ∈ TA.avs (dn ++ xs), Low 5 x := low_tas 5 _
                rw [tas_append] at hnext hlow
                have hld : (TA.avs dn).length = dn.length := tas_len dn
                have hlxs : (TA.avs xs).length = xs.length := tas_len xs
                have hsd := sized_tas dn
                have hsx := sized_tas xs
                apply hI
                conv => whnf
                rw [lt_true hjl]
                conv => whnf
                refine step_elem (Int.natCast_nonneg _) hget rfl ?_
                conv => whnf
                refine hc.to (low1 (low_ta _ _)) (.lst _ _ trivial (low_tas 3 xs)) _ rfl ?_
                have hlE : LowHs 5 (eheap e) := ⟨entsT_low 5 _ _, entsE_low 5 _ _, lowC ⟨.map _ (by decide : 0 < 5), .map _ (by decide : 1 < 5), trivial⟩, trivial⟩
                generalize hDN : TA.avs dn = DN at hnext hlow hld hsd
                generalize hXS : TA.avs xs = XS at hnext hlow hlxs hsx
                conv => whnf
                have fin : ∀ (e3 : Env) (H3 : Heap), H3.take 5 = eheap e ++ [dobj (DN ++ XS).length 175, tcell (.mk k nm ns l)] → envHas e3 [(0, .ptr 2 0), (5, .lst (DN ++ XS) (dtok (DN ++ XS).length 3)), (30, .lst (TA.avs l) .none), (31, .int .i64 l.length), (32, .int .i64 (j + 1 : Nat))] → I e3 H3 := fun e3 H3 h1 h2 =>
                  hG.keep _ (eheap e ++ [dobj (DN ++ XS).length 175, tcell (.mk k nm ns l)]) (Nat.le_refl 5) h1 h2
                    ⟨.ptr _ _ (by decide : 2 < 5), .lst _ _ (dtok_low (by decide : 3 < 5)) hlow, .lst _ _ trivial (low_tas 5 l), .int _ _, .int _ _, trivial⟩
                    ⟨hlE.1, hlE.2.1, hlE.2.2.1, dobj_low _ _ _, lowO_mono (Nat.zero_le _) (low_tcell _), trivial⟩ (hnext _)
                cases XS with
                | nil =>
                  refine app_none hsd (by omega) (by omega) ?_
                  conv => whnf
                  rw [List.append_nil] at fin
                  exact fin _ _ rfl ⟨rfl, rfl, rfl, rfl, add1 (by omega), trivial⟩
                | cons y YS =>
                  refine app_slot (id := 3) hsd hsx (by simp at *; omega) (by simp at *; omega) (by simp) rfl ?_
                  conv => whnf
                  exact fin _ _ rfl ⟨rfl, rfl, rfl, rfl, add1 (by omega), trivial⟩
        exact inv_of [(0, .ptr 2 0), (5, .lst [] .nil), (30, .lst (TA.avs l) .none), (31, .int .i64 l.length), (32, .int .i64 0)] ⟨rfl, rfl, rfl, by show AVal.int .i64 ((TA.avs l).length : Nat) = _; rw [tas_len], rfl, trivial⟩ (key l.length 0 n [] ys _ rfl (Nat.zero_le _) (Nat.le_refl _) h rfl)
    · rw [if_pos (by simpa using h8)] at h
      have hem := empty_spec F e nm
      conv => whnf
      refine hem.to (low1 (.str _)) (.bool _) _ rfl ?_
      cases hb : emptyP e nm
      · rw [if_neg (by simp [hb])] at h
        have hc := ih _ ys h hlen
        have hd2 : (defP e nm).2 = true := by
          unfold emptyP at hb
          cases hq : (defP e nm).2
          · rw [hq] at hb; cases hb
          · rfl
        have hdef : ∃ p : Bytes × TA, e.by_.find? (·.1 == nm) = some p ∧ (defP e nm).1 = p.2 := by
          unfold defP defA at hd2 ⊢
          cases hf : e.by_.find? (·.1 == nm) with
          | none => rw [hf] at hd2; cases hd2
          | some p => exact ⟨p, rfl, rfl⟩
        obtain ⟨p, hf, hp1⟩ := hdef
        have hc := hc (by rw [hp1]; exact hE p (List.mem_of_find?_eq_some hf))
        rw [hp1] at hc
        have hmem : nm ∈ e.by_.map (·.1) := List.mem_map.2 ⟨p, List.mem_of_find?_eq_some hf, by simpa using List.find?_some (p := fun q : Bytes × TA => q.1 == nm) hf⟩
        have hlk : lookP e.by_ nm = p.2 := by unfold lookP; rw [hf]; rfl
        conv => whnf
        rw [lookM_T (x := e.by_) (c := e.by_.length) ?_ hmem]
        · rw [hlk]
          obtain ⟨pn, ⟨pk, pm, ps, pl⟩⟩ := p
          conv => whnf
          refine hc.to (low1 (low_ta _ _)) (.lst _ _ trivial (low_tas 3 ys)) _ rfl ?_
          conv => whnf
          exact ⟨_, _, rfl, Weak.refl _, rfl⟩
        · rfl
      · rw [if_pos hb] at h
        cases h
        conv => whnf
        refine ⟨_, _, rfl, ?_, rfl⟩
        exact weak_dyn

end Go.Ag
/- Package alias: whole, Heads. -/
set_option linter.unusedVariables false
namespace Go.Ag
open Go

variable {T : Tab} {L : Lnk}

theorem whole_spec (F : AliFns T) (e : EnvA) (hE : ∀ p ∈ e.by_, wtT p.2 ≤ 2 ^ 40) (n : Nat) (t : TA) (ys : List TA) (h : spreadF e n (normT t) = some ys) (hl : ys.length ≤ 2 ^ 30) (ht : okN t) (hw : wtT (normT t) ≤ 2 ^ 40) (hj : okN (.mk 7 [] [] ys)) :
    EK T.L 188 [t.av] e (joinT ys).av := by
  have h1 := Norm_spec F.toTypFns t ht
  have h2 := spread_spec F e hE n (normT t) ys h hl hw
  have h3 := Join_spec F.toTypFns ys hj
  generalize normT t = u at h1 h2
  generalize joinT ys = v at h3 ⊢
  obtain ⟨uk, un, us, ul⟩ := u
  obtain ⟨vk, vn, vs, vl⟩ := v
  obtain ⟨k, nm, ns, l⟩ := t
  refine EK.of 0 (low_ta _ _) (acallsG F.h188 (by simp [c_188]) ?_)
  conv => whnf
  refine h1.to ?_
  conv => whnf
  refine h2.to (low1 (low_ta _ _)) (.lst _ _ trivial (low_tas 3 ys)) _ rfl ?_
  conv => whnf
  refine h3.to ?_
  conv => whnf
  exact ⟨_, _, rfl, Weak.refl _, rfl⟩

def headsT (u : TA) : List TA := if u.kind = 7 then u.l else [u]
theorem heads_spec (F : AliFns T) (e : EnvA) (hE : ∀ p ∈ e.by_, wtT p.2 ≤ 2 ^ 40) (n : Nat) (t : TA) (ys : List TA) (h : spreadF e n (normT t) = some ys) (hl : ys.length ≤ 2 ^ 30) (ht : okN t) (hw : wtT (normT t) ≤ 2 ^ 40) (hj : okN (.mk 7 [] [] ys)) :
    EK T.L 149 [t.av] e (.lst (TA.avs (headsT (joinT ys))) .none) := by
  have h1 := whole_spec F e hE n t ys h hl ht hw hj
  generalize joinT ys = v at h1 ⊢
  obtain ⟨vk, vn, vs, vl⟩ := v
  obtain ⟨k, nm, ns, l⟩ := t
  refine EK.of 0 (.lst _ _ trivial (low_tas 3 _)) (acallsG F.h149 (by simp [c_149]) ?_)
  conv => whnf
  refine h1.to (low1 (low_ta _ _)) (low_ta _ _) _ rfl ?_
  conv => whnf
  unfold headsT
  cases hk : (vk == 7)
  · rw [if_neg (by simpa [TA.kind] using hk)]
    conv => whnf
    exact ⟨_, _, rfl, Weak.tok _ _, rfl⟩
  · rw [if_pos (by simpa [TA.kind] using hk)]
    conv => whnf
    exact ⟨_, _, rfl, Weak.tok _ _, rfl⟩

end Go.Ag
/- Package alias: walk, bare, comes. -/
set_option linter.unusedVariables false
namespace Go.Ag
open Go

variable {T : Tab} {L : Lnk}

mutual
def bareT : TA → List Bytes
  | .mk k nm ns l => if k = 8 then [nm] else if k = 7 then bareL l else []
def bareL : List TA → List Bytes
  | [] => []
  | t :: l => bareT t ++ bareL l
end

def foldO {σ α : Type} (st : σ → α → Option (Bool × σ)) : σ → List α → Option (Bool × σ)
  | s, [] => some (true, s)
  | s, r :: rs => match st s r with
    | none => none
    | some (false, s') => some (false, s')
    | some (true, s') => foldO st s' rs
theorem foldO_append {σ α : Type} (st : σ → α → Option (Bool × σ)) : ∀ (a b : List α) (s : σ), foldO st s (a ++ b) = match foldO st s a with
    | none => none
    | some (false, s') => some (false, s')
    | some (true, s') => foldO st s' b
  | [], b, s => rfl
  | r :: a, b, s => by
    rw [List.cons_append, foldO, foldO]
    cases st s r with
    | none => rfl
    | some q =>
      obtain ⟨c, s'⟩ := q
      cases c
      · rfl
      · exact foldO_append st a b s'

theorem walk_spec {σ : Type} (h258 : T.has 258 c_258) (p : σ → Nat → AObj) (r : LRec) (hlow : ∀ s k, k < 10 → LowO 11 (p s k)) (hr : ∀ i, Low 11 (r.e i)) (BB BF : σ → Heap)
    (hB : ∀ s, BB s = [p s 0, p s 1, p s 2, p s 3, p s 4, p s 5, p s 6, p s 7, p s 8, p s 9, .loop r .ready]) (hF : ∀ s, (BF s).length = 11 ∧ ∀ o ∈ BF s, LowO 11 o) (st : σ → Bytes → Option (Bool × σ))
    (hy : ∀ s r b s', st s r = some (b, s') → YieldR T.L 10 [.str r] (BB s) (.ret (.bool b)) (if b then BB s' else BF s')) :
    ∀ (m : Nat) (t : TA), wtT t < m → wtT t ≤ 2 ^ 40 → ∀ s b s', foldO st s (bareT t) = some (b, s') → CallK T.L 258 [t.av, .yld 10] (BB s) (.bool b) (if b then BB s' else BF s') := by
  have hBlow : ∀ s, ∀ o ∈ BB s, LowO 11 o := fun s => by
    rw [hB]
    exact LowHs.at ⟨hlow s 0 (by decide), hlow s 1 (by decide), hlow s 2 (by decide), hlow s 3 (by decide), hlow s 4 (by decide), hlow s 5 (by decide), hlow s 6 (by decide), hlow s 7 (by decide), hlow s 8 (by decide), hlow s 9 (by decide), hr, trivial⟩
  have hBlen : ∀ s, (BB s).length = 11 := fun s => by rw [hB]; rfl
  have hEl : ∀ b s, (if b = true then BB s else BF s).length = 11 ∧ ∀ o ∈ (if b = true then BB s else BF s), LowO 11 o := fun b s => by
    cases b
    · exact hF s
    · exact ⟨hBlen s, hBlow s⟩
  intro m
  induction m with
  | zero => intro t h; omega
  | succ m ih =>
    intro t hlt hwt s b s' hfold
    obtain ⟨k, nm, ns, l⟩ := t
    rw [bareT] at hfold
    have hL0 := fun b s => (hEl b s).1
    refine CallK.of 0 (by rw [(hEl b s').1, hBlen]) (.bool _) (by rw [hBlen]; exact (hEl b s').2) (ACalls.mono (Q := fun r H' => ∃ J, r = .ret (.bool b) ∧ H' = (if b = true then BB s' else BF s') ++ J) ?_ fun r H' ⟨J, e1, e2⟩ => ⟨_, _, J, e1, Weak.refl _, e2, rfl, fun i x y h1 h2 => by rw [h1] at h2; cases h2; exact WeakO.refl x⟩)
    rw [List.replicate_zero, List.append_nil]
    obtain ⟨fin, hfin⟩ : ∃ fin, (if b = true then BB s' else BF s') = fin := ⟨_, rfl⟩
    rw [hfin]
    refine acallsG h258 (by simp [c_258]) ?_
    rw [hB]
    conv => whnf
    cases h8 : (k == 8)
    · rw [if_neg (by simpa using h8)] at hfold
      conv => whnf
      cases h7 : (k == 7)
      · rw [if_neg (by simpa using h7)] at hfold
        cases hfold
        rw [if_pos rfl, hB] at hfin
        subst hfin
        conv => whnf
        exact ⟨_, rfl, rfl⟩
      · rw [if_pos (by simpa using h7)] at hfold
        conv => whnf
        intro I hI hG
        have key : ∀ (d j : Nat) (s1 : σ) (e : Env), l.length - j = d → j ≤ l.length → foldO st s1 (bareL (l.drop j)) = some (b, s') →
            I (setL e [(1, .yld 10), (4, .bool false), (18, .lst (TA.avs l) .none), (19, .int .i64 l.length), (20, .int .i64 j)]) (BB s1 ++ [tcell (.mk k nm ns l)]) := by
          intro d
          induction d with
          | zero =>
            intro j s1 e hd hj hf
            have hjl : j = l.length := by omega
            rw [hjl, List.drop_length, bareL] at hf
            cases hf
            rw [if_pos rfl] at hfin
            subst hfin
            apply hI
            rw [hB]
            conv => whnf
            rw [lt_false (by omega)]
            conv => whnf
            exact ⟨_, rfl, rfl⟩
          | succ d ihd =>
            intro j s1 e hd hj hf
            have hjl : j < l.length := by omega
            rw [List.drop_eq_getElem_cons hjl, bareL, foldO_append] at hf
            have hget := tas_at' hjl
            have hmem := List.getElem_mem hjl
            have hwl := wtL_mem hmem
            rw [wtT] at hlt hwt
            have hll := len_wtL l
            cases hq : foldO st s1 (bareT l[j]) with
            | none => rw [hq] at hf; cases hf
            | some q =>
              obtain ⟨c, s2⟩ := q
              rw [hq] at hf
              have hc := ih l[j] (by omega) (by omega) s1 c s2 hq
              have hnext := fun e => ihd (j + 1) s2 e (by omega) hjl
              generalize l[j] = v at hget hc
              have hlv : ∀ x ∈ [v.av, .yld 10], Low (BB s1).length x := by rw [hBlen]; exact low2 (low_ta _ _) (.yld _ (by decide))
              apply hI
              rw [hB]
              obtain ⟨vk, vn, vs, vl⟩ := v
              conv => whnf
              rw [lt_true hjl]
              conv => whnf
              refine step_elem (Int.natCast_nonneg _) hget rfl ?_
              conv => whnf
              refine hc.to (by rw [hL0, hBlen]) hlv (by rw [hBlen]; exact hBlow _) (.bool _) (by rw [hBlen]; exact (hEl c s2).2) [tcell (.mk k nm ns l), .cells [.int .i64 vk, .str vn, .lst (strA vs) .none, .lst (TA.avs vl) .none] 175] (by rw [hB]; rfl) ?_
              cases c
              · cases hf
                conv => whnf
                rw [show (if false = true then BB s' else BF s') = fin from hfin]
                exact ⟨_, rfl, rfl⟩
              · have hf : foldO st s2 (bareL (l.drop (j + 1))) = some (b, s') := hf
                conv => whnf
                rw [if_pos rfl, hB]
                refine hG.keep [(1, .yld 10), (4, .bool false), (18, .lst (TA.avs l) .none), (19, .int .i64 l.length), (20, .int .i64 (j + 1 : Nat))] (BB s2 ++ [tcell (.mk k nm ns l)]) (by rw [hB]; exact Nat.le_refl 12) (by rw [hB]; rfl) ⟨rfl, rfl, rfl, rfl, add1 (by omega), trivial⟩
                  (by rw [List.length_append, hBlen]; exact ⟨.yld _ (by decide : 10 < 12), .bool _, .lst _ _ trivial (low_tas _ l), .int _ _, .int _ _, trivial⟩)
                  (by rw [List.length_append, hBlen, hB]; exact ⟨lowO_mono (by decide : 11 ≤ 12) (hlow _ 0 (by decide)), lowO_mono (by decide : 11 ≤ 12) (hlow _ 1 (by decide)), lowO_mono (by decide : 11 ≤ 12) (hlow _ 2 (by decide)), lowO_mono (by decide : 11 ≤ 12) (hlow _ 3 (by decide)), lowO_mono (by decide : 11 ≤ 12) (hlow _ 4 (by decide)), lowO_mono (by decide : 11 ≤ 12) (hlow _ 5 (by decide)), lowO_mono (by decide : 11 ≤ 12) (hlow _ 6 (by decide)), lowO_mono (by decide : 11 ≤ 12) (hlow _ 7 (by decide)), lowO_mono (by decide : 11 ≤ 12) (hlow _ 8 (by decide)), lowO_mono (by decide : 11 ≤ 12) (hlow _ 9 (by decide)), lowO_mono (by decide : 11 ≤ 12) (o := .loop r .ready) hr, lowO_mono (Nat.zero_le _) (low_tcell _), trivial⟩) (hnext _ hf)
        have h0 := key l.length 0 s
        rw [hB] at h0
        exact inv_of [(1, .yld 10), (4, .bool false), (18, .lst (TA.avs l) .none), (19, .int .i64 l.length), (20, .int .i64 0)] ⟨rfl, rfl, rfl, by show AVal.int .i64 ((TA.avs l).length : Nat) = _; rw [tas_len], rfl, trivial⟩ (h0 _ rfl (Nat.zero_le _) hfold)
    · rw [if_pos (by simpa using h8), foldO] at hfold
      cases hst : st s nm with
      | none => rw [hst] at hfold; cases hfold
      | some q =>
        obtain ⟨c, s2⟩ := q
        rw [hst] at hfold
        have hyy := hy s nm c s2 hst
        have hbs : b = c ∧ s' = s2 := by
          cases c
          · cases hfold; exact ⟨rfl, rfl⟩
          · cases hfold; exact ⟨rfl, rfl⟩
        obtain ⟨rfl, rfl⟩ := hbs
        rw [hfin] at hyy
        conv => whnf
        refine hyy.to (by rw [hBlen]; decide) (by rw [hBlen, ← hfin, hL0]) (by rw [hBlen]; exact low1 (.str _)) (by rw [hBlen]; exact hBlow _) (.bool _) (by rw [hBlen, ← hfin]; exact (hEl b s').2) [tcell (.mk k nm ns l)] (by rw [hB]; rfl) ?_
        conv => whnf
        exact ⟨_, rfl, rfl⟩

end Go.Ag
/- Package alias: bare, comes. -/
set_option linter.unusedVariables false
namespace Go.Ag
open Go

variable {T : Tab} {L : Lnk}

structure AliFns2 (T : Tab) : Prop extends AliFns T where
  h225 : T.has 225 c_225
  h257 : T.has 257 c_257
  h258 : T.has 258 c_258
  h187 : T.has 187 c_187
  h144 : T.has 144 c_144

theorem low_putA {n : Nat} {e : Env} {d : Option Nat} {v : AVal} (he : ∀ i, Low n (e i)) (hv : Low n v) : ∀ i, Low n (putA e d v i) := fun i => by
  cases d with
  | none => exact he i
  | some j => simp only [putA, upd]; split; exact hv; exact he i
theorem low_getD {n : Nat} {args : List AVal} (h : ∀ x ∈ args, Low n x) : ∀ i, Low n (args.getD i .undef) := fun i => by
  rw [List.getD_eq_getElem?_getD]
  cases hx : args[i]? with
  | none => exact .undef
  | some x => exact h x (List.mem_of_getElem? hx)

theorem bare_spec (h225 : T.has 225 c_225) (t : TA) (H : Heap) : ACalls T.L 225 [t.av] H fun r H' => r = .ret (.fn (.func 257) [] [.ptr H.length 0]) ∧ H' = H ++ [tcell t] := by
  refine acallsG h225 (by simp [c_225]) ?_
  obtain ⟨k, nm, ns, l⟩ := t
  conv => whnf
  exact ⟨rfl, rfl⟩

theorem CallK.weakA {f : Nat} {args args' : List AVal} {H0 H1 : Heap} {y : AVal} (h : CallK L f args' H0 y H1) (hw : WeakL L args args') : CallK L f args H0 y H1 := fun g w vs hs hr => h g w vs hs (hr.weak hw)

theorem bare1_spec (h257 : T.has 257 c_257) (t : TA) (id : Nat) (H : Heap) {b : Bool} {H1 : Heap} (hid : H[id]? = some (tcell t)) (h : CallK T.L 258 [t.av, .yld 10] H (.bool b) H1) : ACalls T.L 257 [.yld 10, .ptr id 0] H fun r H' => r = .ret (.tup []) ∧ H' = H1 := by
  refine acallsG h257 (by simp [c_257]) ?_
  obtain ⟨k, nm, ns, l⟩ := t
  have hl := load_all (k := 4) hid rfl
  conv => whnf
  refine step_load hl ?_
  conv => whnf
  refine ACalls.to1 h ?_
  conv => whnf
  exact ⟨rfl, rfl⟩

def entsS : List Bytes → Nat → List (AVal × AVal × Nat)
  | [], _ => []
  | p :: l, k => (.str p, .bool true, k) :: entsS l (k + 1)
theorem entsS_append : ∀ (l : List Bytes) (p : Bytes) (k : Nat), entsS (l ++ [p]) k = entsS l k ++ [(.str p, .bool true, k + l.length)]
  | [], p, k => rfl
  | q :: l, p, k => by
    rw [List.cons_append, entsS, entsS_append l p (k + 1), entsS, List.cons_append, List.length_cons, show k + 1 + l.length = k + (l.length + 1) from by omega]
theorem entsS_low (n : Nat) : ∀ (l : List Bytes) (k : Nat), ∀ e ∈ entsS l k, Low n e.1 ∧ Low n e.2.1
  | [], k, e, h => by cases h
  | p :: l, k, e, h => by
    rcases List.mem_cons.1 h with rfl | h
    · exact ⟨.str _, .bool _⟩
    · exact entsS_low n l (k + 1) e h
theorem findS : ∀ (l : List Bytes) (nm : Bytes) (k i : Nat), ∃ j, findM 1 (.str nm) (entsS l k) i = some (if l.contains nm then some (j, .bool true) else none)
  | [], nm, k, i => ⟨0, rfl⟩
  | p :: l, nm, k, i => by
    rw [entsS, findM, keyEq, List.contains_cons]
    cases h : (nm == p)
    · obtain ⟨j, hj⟩ := findS l nm (k + 1) (i + 1)
      exact ⟨j, by dsimp only; rw [hj, Bool.false_or]⟩
    · exact ⟨i, by dsimp only; rw [Bool.true_or]; rfl⟩
theorem look_seen {H : Heap} {id c : Nat} {l : List Bytes} (h : H[id]? = some (.map (entsS l 0) c)) (nm : Bytes) :
    lookM 1 (.bool false) false H (.map id) (.str nm) = some (.bool (l.contains nm)) := by
  obtain ⟨j, hj⟩ := findS l nm 0 0
  simp only [lookM, entsOf, h, hj, Option.map_some, lookV]
  cases l.contains nm <;> rfl
theorem put_seen {H : Heap} {id c : Nat} {l : List Bytes} {nm : Bytes} (h : H[id]? = some (.map (entsS l 0) c)) (hc : c = l.length) (hn : l.contains nm = false) :
    putM 1 H (.map id) (.str nm) (.bool true) = some (H.set id (.map (entsS (l ++ [nm]) 0) (l ++ [nm]).length)) := by
  obtain ⟨j, hj⟩ := findS l nm 0 0
  rw [hn] at hj
  subst hc
  simp only [putM, h, hj]
  rw [entsS_append, List.length_append, Nat.zero_add]
  rfl
theorem look_T0 {H : Heap} {id c : Nat} {l : List (Bytes × TA)} (h : H[id]? = some (.map (entsT l 0) c)) (nm : Bytes) :
    ∃ (k : Int) (tn : Bytes) (xs ys : List AVal) (tk : Tok), lookM 1 (.agg [.int .i64 0, .str [], .lst [] .nil, .lst [] .nil]) false H (.map id) (.str nm) = some (.agg [.int .i64 k, .str tn, .lst xs tk, .lst ys tk]) ∧ (∀ L : Lnk, Weak L (.agg [.int .i64 k, .str tn, .lst xs tk, .lst ys tk]) (lookP l nm).av) ∧ ∀ n, Low n (.agg [.int .i64 k, .str tn, .lst xs tk, .lst ys tk]) := by
  simp only [lookM, entsOf, h, findT, Option.map_some, lookV]
  have h2 : (l.findIdx? (·.1 == nm)).isSome = (l.find? (·.1 == nm)).isSome := by
    rw [List.findIdx?_isSome, Bool.eq_iff_iff, List.any_eq_true, List.find?_isSome]
  unfold lookP
  cases hf : l.find? (·.1 == nm) with
  | none =>
    rw [hf] at h2
    cases hg : l.findIdx? (·.1 == nm) with
    | none => exact ⟨0, [], [], [], .nil, rfl, fun L => weak_zeroT, fun n => .agg _ (LowL.at ⟨.int _ _, .str _, .lst _ _ trivial low0, .lst _ _ trivial low0, trivial⟩)⟩
    | some j => rw [hg] at h2; cases h2
  | some p =>
    rw [hf] at h2
    cases hg : l.findIdx? (·.1 == nm) with
    | none => rw [hg] at h2; cases h2
    | some j => obtain ⟨pn, ⟨pk, pm, ps, pl⟩⟩ := p; exact ⟨_, _, _, _, _, rfl, fun L => Weak.refl _, fun n => low_ta n (.mk pk pm ps pl)⟩

def comesStep (rec : TA → List Bytes → Option (Bool × List Bytes)) (by_ : List (Bytes × TA)) (nm : Bytes) (seen : List Bytes) (r : Bytes) : Option (Bool × List Bytes) :=
  if r == nm then some (false, seen) else if seen.contains r then some (true, seen) else match rec (lookP by_ r) (seen ++ [r]) with
    | none => none
    | some (b, s) => some (!b, s)
def comesF (by_ : List (Bytes × TA)) (nm : Bytes) : Nat → TA → List Bytes → Option (Bool × List Bytes)
  | 0, _, _ => none
  | n + 1, t, seen => (foldO (comesStep (comesF by_ nm n) by_ nm) seen (bareT t)).map fun q => (!q.1, q.2)

def cheap (e : EnvA) (seen : List Bytes) : Heap := eheap e ++ [.map (entsS seen 0) seen.length]
theorem low_cheap (e : EnvA) (s : List Bytes) : ∀ o ∈ cheap e s, LowO 4 o :=
  LowHs.at ⟨entsT_low 4 _ _, entsE_low 4 _ _, lowC ⟨.map _ (by decide : 0 < 4), .map _ (by decide : 1 < 4), trivial⟩, entsS_low 4 _ _, trivial⟩

def cB (e : EnvA) (nm : Bytes) (t : TA) (s : List Bytes) : Nat → AObj
  | 0 => .map (entsT e.by_ 0) e.by_.length
  | 1 => .map (entsE e.empty 0) e.empty.length
  | 2 => .cells [.map 0, .map 1] 234
  | 3 => .map (entsS s 0) s.length
  | 4 => .cells [.ptr 2 0] 179
  | 5 => .cells [.str nm] 10
  | 6 => tcell t
  | 7 => .cells [.map 3] 232
  | 8 => .cells [.bool false] 5
  | _ => tcell t

theorem comes_spec (F : AliFns2 T) (e : EnvA) (hE : ∀ p ∈ e.by_, wtT p.2 ≤ 2 ^ 40) (nm : Bytes) : ∀ (n : Nat) (t : TA) (seen : List Bytes) (b : Bool) (s' : List Bytes), comesF e.by_ nm n t seen = some (b, s') → wtT t ≤ 2 ^ 40 →
    CallK T.L 187 [.ptr 2 0, .str nm, t.av, .map 3] (cheap e seen) (.bool b) (cheap e s')
  | 0 => fun t seen b s' h => by rw [comesF] at h; cases h
  | n + 1 => fun t seen b s' h hwt => by
    have ih := comes_spec F e hE nm n
    rw [comesF, Option.map_eq_some_iff] at h
    obtain ⟨⟨c, s1⟩, hfold, h2⟩ := h
    have hb : (!c) = b := congrArg Prod.fst h2
    have hs1 : s1 = s' := congrArg Prod.snd h2
    subst hb hs1
    refine CallK.of 0 rfl (.bool _) (low_cheap e s1) (ACalls.mono (Q := fun r H' => ∃ J, r = .ret (.bool (!c)) ∧ H' = cheap e s1 ++ J) ?_ fun r H' ⟨J, e1, e2⟩ => ⟨_, _, J, e1, Weak.refl _, e2, rfl, fun i x y h1 h2 => by rw [h1] at h2; cases h2; exact WeakO.refl x⟩)
    refine acallsG F.h187 (by simp [c_187]) ?_
    have hbare := bare_spec F.h225 t
    have h257 := F.h257
    have hwalk := fun p r hlow hr BB BF hB hF st hy => walk_spec (T := T) (σ := List Bytes) F.h258 p r hlow hr BB BF hB hF st hy (wtT t + 1) t (Nat.lt_succ_self _) hwt seen c s1
    obtain ⟨k, tn, ns, l⟩ := t
    conv => whnf
    refine (hbare _).to1 ?_
    conv => whnf
    intro r hr hyp
    have hlr : ∀ i, Low 11 (r.e i) := by
      rw [hr]
      refine low_putA ?_ (.fn _ _ _ low0 (low1 (.ptr _ _ (by decide : 9 < 11))))
      refine low_putA ?_ (low_ta 11 (.mk k tn ns l))
      refine low_putA ?_ (.ptr _ _ (by decide : 8 < 11))
      refine low_putA ?_ (.ptr _ _ (by decide : 7 < 11))
      refine low_putA ?_ (.ptr _ _ (by decide : 6 < 11))
      refine low_putA ?_ (.ptr _ _ (by decide : 5 < 11))
      refine low_putA ?_ (.ptr _ _ (by decide : 4 < 11))
      exact low_getD (LowL.at ⟨.ptr _ _ (by decide : 2 < 11), .str _, low_ta 11 (.mk k tn ns l), .map _ (by decide : 3 < 11), trivial⟩)
    have hcl : ∀ i s, i < 10 → LowO 11 (cB e nm (.mk k tn ns l) s i) := fun i s hi => by
      match i, hi with
      | 0, _ => exact entsT_low 11 _ _
      | 1, _ => exact entsE_low 11 _ _
      | 2, _ => exact lowC ⟨.map _ (by decide : 0 < 11), .map _ (by decide : 1 < 11), trivial⟩
      | 3, _ => exact entsS_low 11 _ _
      | 4, _ => exact lowC ⟨.ptr _ _ (by decide : 2 < 11), trivial⟩
      | 5, _ => exact lowC ⟨.str _, trivial⟩
      | 6, _ => exact (show LowO 11 (tcell (.mk k tn ns l)) from lowO_mono (Nat.zero_le _) (low_tcell _))
      | 7, _ => exact lowC ⟨.map _ (by decide : 3 < 11), trivial⟩
      | 8, _ => exact lowC ⟨.bool _, trivial⟩
      | 9, _ => exact (show LowO 11 (tcell (.mk k tn ns l)) from lowO_mono (Nat.zero_le _) (low_tcell _))
      | i + 10, h => omega
    obtain ⟨BB, hBB⟩ : ∃ BB : List Bytes → Heap, BB = fun s => [cB e nm (.mk k tn ns l) s 0, cB e nm (.mk k tn ns l) s 1, cB e nm (.mk k tn ns l) s 2, cB e nm (.mk k tn ns l) s 3, cB e nm (.mk k tn ns l) s 4, cB e nm (.mk k tn ns l) s 5, cB e nm (.mk k tn ns l) s 6, cB e nm (.mk k tn ns l) s 7, cB e nm (.mk k tn ns l) s 8, cB e nm (.mk k tn ns l) s 9, .loop r .ready] := ⟨_, rfl⟩
    obtain ⟨BF, hBF⟩ : ∃ BF : List Bytes → Heap, BF = fun s => [cB e nm (.mk k tn ns l) s 0, cB e nm (.mk k tn ns l) s 1, cB e nm (.mk k tn ns l) s 2, cB e nm (.mk k tn ns l) s 3, cB e nm (.mk k tn ns l) s 4, cB e nm (.mk k tn ns l) s 5, cB e nm (.mk k tn ns l) s 6, cB e nm (.mk k tn ns l) s 7, .cells [.bool true] 5, cB e nm (.mk k tn ns l) s 9, .loop r .ret] := ⟨_, rfl⟩
    have hFl : ∀ s, (BF s).length = 11 ∧ ∀ o ∈ BF s, LowO 11 o := fun s => by
      rw [hBF]
      exact ⟨rfl, LowHs.at ⟨hcl 0 s (by decide), hcl 1 s (by decide), hcl 2 s (by decide), hcl 3 s (by decide), hcl 4 s (by decide), hcl 5 s (by decide), hcl 6 s (by decide), hcl 7 s (by decide), lowC ⟨.bool _, trivial⟩, hcl 9 s (by decide), hlr, trivial⟩⟩
    have hBl : ∀ s, (BB s).length = 11 ∧ ∀ o ∈ BB s, LowO 11 o := fun s => by
      rw [hBB]
      exact ⟨rfl, LowHs.at ⟨hcl 0 s (by decide), hcl 1 s (by decide), hcl 2 s (by decide), hcl 3 s (by decide), hcl 4 s (by decide), hcl 5 s (by decide), hcl 6 s (by decide), hcl 7 s (by decide), hcl 8 s (by decide), hcl 9 s (by decide), hlr, trivial⟩⟩
    have hround : ∀ s ref b s', comesStep (comesF e.by_ nm n) e.by_ nm s ref = some (b, s') → YieldR T.L 10 [.str ref] (BB s) (.ret (.bool b)) (if b then BB s' else BF s') := fun s ref b s' hst => by
      have hEl : (if b = true then BB s' else BF s').length = 11 ∧ ∀ o ∈ (if b = true then BB s' else BF s'), LowO 11 o := by
        cases b
        · exact hFl s'
        · exact hBl s'
      refine YieldR.of (by rw [hEl.1, (hBl s).1]) (.bool _) (by rw [(hBl s).1]; exact hEl.2) ((hyp [.str ref] (BB s) (fun r' H' => r' = .ret (.bool b) ∧ ∃ J, H' = (if b = true then BB s' else BF s') ++ J) rfl (by rw [hBB]; rfl) ?_).mono fun r' H' ⟨e2, J, e3⟩ => ⟨_, J, by rw [e2]; exact Weak.refl _, e3, rfl, fun i x y h1 h2 => by rw [h1] at h2; cases h2; exact WeakO.refl x⟩)
      obtain ⟨fin, hfin⟩ : ∃ fin, (if b = true then BB s' else BF s') = fin := ⟨_, rfl⟩
      rw [hfin]
      unfold comesStep at hst
      rw [hBB]
      conv => whnf
      refine ⟨rfl, ?_⟩
      conv => whnf
      cases h1 : (ref == nm)
      · rw [if_neg (by rw [h1]; simp)] at hst
        conv => whnf
        rw [look_seen (l := s) (c := s.length) rfl]
        conv => whnf
        cases h2 : s.contains ref
        · rw [if_neg (by rw [h2]; simp)] at hst
          conv => whnf
          rw [put_seen (l := s) (c := s.length) rfl rfl h2]
          conv => whnf
          obtain ⟨xk, xn, xs, ys, xt, hx1, hx2, hx3⟩ := look_T0 (H := cheap e (s ++ [ref]) ++ [.cells [.ptr 2 0] 179, .cells [.str nm] 10, tcell (.mk k tn ns l), .cells [.map 3] 232, .cells [.bool false] 5, tcell (.mk k tn ns l), .loop r .busy]) (id := 0) (l := e.by_) (c := e.by_.length) rfl ref
          refine step_some hx1 ?_
          conv => whnf
          cases hq : comesF e.by_ nm n (lookP e.by_ ref) (s ++ [ref]) with
          | none => rw [hq] at hst; cases hst
          | some q =>
            obtain ⟨c2, s2⟩ := q
            rw [hq] at hst
            have hwl : wtT (lookP e.by_ ref) ≤ 2 ^ 40 := by
              unfold lookP
              cases hf : e.by_.find? (·.1 == ref) with
              | none => decide
              | some p => exact hE p (List.mem_of_find?_eq_some hf)
            have hcall := (ih _ _ _ _ hq hwl).weakA (args := [.ptr 2 0, .str nm, .agg [.int .i64 xk, .str xn, .lst xs xt, .lst ys xt], .map 3]) ⟨Weak.refl _, Weak.refl _, hx2 T.L, Weak.refl _, trivial⟩
            have hlx := hx3 4
            refine hcall.to rfl (LowL.at ⟨.ptr _ _ (by decide : 2 < 4), .str _, hlx, .map _ (by decide : 3 < 4), trivial⟩) (low_cheap e _) (.bool _) (low_cheap e s2) [.cells [.ptr 2 0] 179, .cells [.str nm] 10, tcell (.mk k tn ns l), .cells [.map 3] 232, .cells [.bool false] 5, tcell (.mk k tn ns l), .loop r .busy] rfl ?_
            conv => whnf
            cases c2
            · cases hst
              replace hfin : BB s' = fin := hfin
              rw [hBB] at hfin
              subst hfin
              conv => whnf
              exact ⟨rfl, rfl, [], rfl⟩
            · cases hst
              replace hfin : BF s' = fin := hfin
              rw [hBF] at hfin
              subst hfin
              conv => whnf
              exact ⟨rfl, rfl, [], rfl⟩
        · rw [if_pos h2] at hst
          cases hst
          rw [if_pos rfl, hBB] at hfin
          subst hfin
          conv => whnf
          exact ⟨rfl, rfl, [], rfl⟩
      · rw [if_pos h1] at hst
        cases hst
        rw [if_neg (by simp), hBF] at hfin
        subst hfin
        conv => whnf
        exact ⟨rfl, rfl, [], rfl⟩
    have h2 := hwalk (fun s i => cB e nm (.mk k tn ns l) s i) r (fun s i hi => hcl i s hi) hlr BB BF (fun s => by rw [hBB]) hFl _ hround hfold
    have h3 := bare1_spec h257 (.mk k tn ns l) 9 _ (by rw [hBB]; rfl) h2
    have hB0 : BB seen = [cB e nm (.mk k tn ns l) seen 0, cB e nm (.mk k tn ns l) seen 1, cB e nm (.mk k tn ns l) seen 2, cB e nm (.mk k tn ns l) seen 3, cB e nm (.mk k tn ns l) seen 4, cB e nm (.mk k tn ns l) seen 5, cB e nm (.mk k tn ns l) seen 6, cB e nm (.mk k tn ns l) seen 7, cB e nm (.mk k tn ns l) seen 8, cB e nm (.mk k tn ns l) seen 9, .loop r .ready] := by rw [hBB]
    rw [hB0] at h3
    refine h3.mono fun r' H' ⟨e1, e2⟩ => ?_
    clear h3 h2 hround hyp hwalk
    subst e1
    cases c
    · have e2 : H' = BF s1 := e2
      rw [hBF] at e2
      subst e2
      conv => whnf
      refine ⟨rfl, ?_⟩
      conv => whnf
      exact ⟨_, rfl, rfl⟩
    · have e2 : H' = BB s1 := e2
      rw [hBB] at e2
      subst e2
      conv => whnf
      refine ⟨rfl, ?_⟩
      conv => whnf
      exact ⟨_, rfl, rfl⟩

end Go.Ag
/- Package alias: New. -/
set_option linter.unusedVariables false
namespace Go.Ag
open Go

variable {T : Tab} {L : Lnk}

theorem ACalls.cut {f : Nat} {args : List AVal} {H0 : Heap} {Q : ARet → Heap → Prop}
    (h : ACalls L f args H0 fun r H1 => ∃ r' K J, H1 = K ++ J ∧ WeakR L r r' ∧ Low K.length r'.v ∧ H0.length ≤ K.length ∧ (∀ o ∈ K, LowO K.length o) ∧ Q r' K) : ACalls L f args H0 Q := fun g w vs hs hr =>
  (h g w vs hs hr).mono fun e w' ⟨r, H1, g', ⟨r', K, J, e1, e3, e4, e5, e8, e9⟩, hle, hst, hrep⟩ => by
    subst e1
    refine ⟨r', K, g'.cut K.length, e9, Ghost.le_cut hle fun i v hi => hs.new i v (Nat.le_trans e5 hi), hst.cut e8, ?_⟩
    cases r with
    | ret x =>
      cases r' with
      | ret y => obtain ⟨v, rfl, hrep⟩ := hrep; exact ⟨v, rfl, (e3 _ _ hrep).cut e4⟩
      | pan y => exact e3.elim
    | pan x =>
      cases r' with
      | ret y => exact e3.elim
      | pan y => obtain ⟨v, rfl, hrep⟩ := hrep; exact ⟨v, rfl, (e3 _ _ hrep).cut e4⟩

theorem CallK.at3 {f : Nat} {args args' : List AVal} {a b c d a' b' c' d' it : AObj} {y : AVal} (h : CallK L f args [a, b, c, d] y [a', b', c', d']) (hargs : args.map (ren (nameOf [0, 1, 2, 4] 5)) = args') (hy : ren (nameOf [0, 1, 2, 4] 5) y = y)
    (h0 : LowHs 3 [a, b, c, d]) (h1 : LowHs 3 [a', b', c', d']) : ACalls L f args' [a, b, c, it, d] fun r H' => r = .ret y ∧ H' = [a', b', c', it, d'] := by
  have hρ : ∀ i, i < 3 → nameOf [0, 1, 2, 4] 5 i = i := fun i hi => by
    match i, hi with
    | 0, _ => rfl
    | 1, _ => rfl
    | 2, _ => rfl
    | i + 3, h => omega
  have hp : Part [a, b, c, it, d] [0, 1, 2, 4] [a, b, c, d] := by
    refine ⟨by decide, rfl, fun k i o hk ho => ?_⟩
    have : o ∈ [a, b, c, d] := List.mem_of_getElem? ho
    have hr := renO_low hρ (h0.at o this)
    show [a, b, c, it, d][i]? = some (renO (nameOf [0, 1, 2, 4] 5) o)
    rw [hr]
    match k, hk, ho with
    | 0, hk, ho => cases hk; exact ho
    | 1, hk, ho => cases hk; exact ho
    | 2, hk, ho => cases hk; exact ho
    | 3, hk, ho => cases hk; exact ho
    | k + 4, hk, ho => cases hk
  have hf := ACalls.frameL h [0, 1, 2, 4] hp (.inr fun r H' hq => by rw [hq.2]; exact Nat.le_refl 4)
  rw [show args.map (ren (nameOf [0, 1, 2, 4] [a, b, c, it, d].length)) = args' from hargs] at hf
  refine hf.mono fun r H' ⟨r1, H1', ⟨e1, e2⟩, _, e3, e4⟩ => ?_
  subst e1 e2
  refine ⟨by rw [e3]; exact congrArg ARet.ret hy, ?_⟩
  rw [e4]
  have q : ∀ o ∈ [a', b', c', d'], renO (nameOf [0, 1, 2, 4] [a, b, c, it, d].length) o = o := fun o ho => renO_low hρ (h1.at o ho)
  have qa := q a' (by simp)
  have qb := q b' (by simp)
  have qc := q c' (by simp)
  have qd := q d' (by simp)
  simp [putL] at qa qb qc qd ⊢
  exact ⟨qa, qb, qc, qd⟩

theorem put_T {H : Heap} {id c : Nat} {l : List (Bytes × TA)} {nm : Bytes} {t : TA} (h : H[id]? = some (.map (entsT l 0) c)) (hc : c = l.length) (hn : (l.find? (·.1 == nm)).isSome = false) :
    putM 1 H (.map id) (.str nm) t.av = some (H.set id (.map (entsT (l ++ [(nm, t)]) 0) (l ++ [(nm, t)]).length)) := by
  have hj := findT l nm 0 0
  have h2 : (l.findIdx? (·.1 == nm)) = none := by
    cases hq : l.findIdx? (·.1 == nm) with
    | none => rfl
    | some j =>
      have h3 : (l.findIdx? (·.1 == nm)).isSome = true := by rw [hq]; rfl
      rw [List.findIdx?_isSome, List.any_eq_true] at h3
      rw [Bool.eq_false_iff] at hn
      exact absurd (by rw [List.find?_isSome]; exact h3) hn
  rw [h2] at hj
  subst hc
  simp only [putM, h, hj]
  rw [entsT_append, List.length_append, Nat.zero_add]
  rfl

theorem step_someH {o : Option Heap} {v : Heap} {P : Heap → Prop} (h : o = some v) (hp : P v) : (match (generalizing := false) o with
    | some v => P v
    | none => False) := by rw [h]; exact hp

def defV (p : Bytes × TA) : AVal := .agg (.str p.1 :: p.2.av.cells)
def defVs (l : List (Bytes × TA)) : List AVal := l.map defV
theorem low_defVs (n : Nat) (l : List (Bytes × TA)) : ∀ x ∈ defVs l, Low n x := fun x hx => by
  obtain ⟨p, _, rfl⟩ := List.mem_map.1 hx
  obtain ⟨nm, ⟨k, tn, ns, tl⟩⟩ := p
  exact .agg _ (LowL.at ⟨.str _, .int _ _, .str _, .lst _ _ trivial (fun y hy => by obtain ⟨s, _, rfl⟩ := List.mem_map.1 hy; exact .str _), .lst _ _ trivial (low_tas n tl), trivial⟩)

def addBy (by_ : List (Bytes × TA)) (p : Bytes × TA) : List (Bytes × TA) := if (by_.find? (·.1 == p.1)).isSome then by_ else by_ ++ [(p.1, normT p.2)]
def newBy (l : List (Bytes × TA)) : List (Bytes × TA) := l.foldl addBy []

structure NewOK (by_ : List (Bytes × TA)) (e : EnvA) : Prop where
  hby : e.by_ = by_
  empty : ∀ p ∈ by_, ∃ n b s, comesF by_ p.1 n p.2 [] = some (b, s) ∧ lookE e.empty p.1 = b

theorem look_has {H : Heap} {id c : Nat} {l : List (Bytes × TA)} (h : H[id]? = some (.map (entsT l 0) c)) (nm : Bytes) :
    ∃ (k : Int) (tn : Bytes) (xs ys : List AVal) (tk : Tok), lookM 1 (.agg [.int .i64 0, .str [], .lst [] .nil, .lst [] .nil]) true H (.map id) (.str nm) = some (.tup [.agg [.int .i64 k, .str tn, .lst xs tk, .lst ys tk], .bool (l.find? (·.1 == nm)).isSome]) := by
  rw [look_def h]
  cases hf : l.find? (·.1 == nm) with
  | none => exact ⟨0, [], [], [], .nil, rfl⟩
  | some p => obtain ⟨pn, ⟨pk, pm, ps, pl⟩⟩ := p; exact ⟨_, _, _, _, _, rfl⟩

theorem defVs_at {l : List (Bytes × TA)} {i : Nat} (h : i < l.length) : (defVs l)[((i : Nat) : Int).toNat]? = some (defV l[i]) := by
  unfold defVs
  simp [List.getElem?_map, List.getElem?_eq_getElem h]

theorem entsT_mem : ∀ {l : List (Bytes × TA)} {j : Nat} {p : AVal × AVal × Nat}, p ∈ entsT l j → ∃ k, ∃ h : k < l.length, p = (.str l[k].1, l[k].2.av, j + k)
  | [], j, p, h => by cases h
  | q :: l, j, p, h => by
    rcases List.mem_cons.1 h with rfl | h
    · exact ⟨0, by simp, rfl⟩
    · obtain ⟨k, hk, e⟩ := entsT_mem h
      exact ⟨k + 1, by simpa using hk, by rw [e]; simp; omega⟩
theorem entsT_find : ∀ (l : List (Bytes × TA)) (j k : Nat) (h : k < l.length), (entsT l j).find? (·.2.2 == j + k) = some (.str l[k].1, l[k].2.av, j + k)
  | [], j, k, h => by cases h
  | q :: l, j, 0, h => by rw [entsT, List.find?_cons]; simp
  | q :: l, j, k + 1, h => by
    rw [entsT, List.find?_cons]
    have : (j == j + (k + 1)) = false := by simp
    simp only [this]
    have := entsT_find l (j + 1) k (by simpa using h)
    rw [show j + 1 + k = j + (k + 1) from by omega] at this
    simpa using this
theorem next_T {H : Heap} {m id n : Nat} {l : List (Bytes × TA)} {seen : List Nat} {K : AVal → Heap → Prop} (hid : H[id]? = some (.miter (some m) n seen n)) (hm : H[m]? = some (.map (entsT l 0) n))
    (h1 : ∀ k (h : k < l.length), k ∉ seen → K (.tup [.bool true, .str l[k].1, l[k].2.av]) (H.set id (.miter (some m) n (seen ++ [k]) n))) (h2 : (∀ k, k < l.length → k ∈ seen) → K (.tup [.bool false]) H) : nextK H (.ptr id 0) K := by
  unfold nextK
  simp only [hid, hm]
  refine ⟨⟨trivial, trivial⟩, fun p hp hs => ?_, fun hall => h2 fun k hk => ?_⟩
  · obtain ⟨k, hk, rfl⟩ := entsT_mem hp
    rw [Nat.zero_add] at hs ⊢
    exact h1 k hk hs
  · have := entsT_find l 0 k hk
    have := hall _ (List.mem_of_find?_eq_some this)
    rwa [Nat.zero_add] at this
theorem entry_T {H : Heap} {m id n k : Nat} {l : List (Bytes × TA)} {seen : List Nat} (hid : H[id]? = some (.miter (some m) n (seen ++ [k]) n)) (hm : H[m]? = some (.map (entsT l 0) n)) (hk : k < l.length) : entryM H (.ptr id 0) = some (.tup [.str l[k].1, l[k].2.av]) := by
  have := entsT_find l 0 k hk
  rw [Nat.zero_add] at this
  simp only [entryM, hid, hm, List.getLast?_append, List.getLast?_singleton, Option.some_or, if_true, this, Option.map_some]
theorem entsE_append : ∀ (l : List (Bytes × Bool)) (p : Bytes × Bool) (k : Nat), entsE (l ++ [p]) k = entsE l k ++ [(.str p.1, .bool p.2, k + l.length)]
  | [], p, k => rfl
  | q :: l, p, k => by
    rw [List.cons_append, entsE, entsE_append l p (k + 1), entsE, List.cons_append, List.length_cons, show k + 1 + l.length = k + (l.length + 1) from by omega]
theorem put_E {H : Heap} {id c : Nat} {l : List (Bytes × Bool)} {nm : Bytes} {b : Bool} (h : H[id]? = some (.map (entsE l 0) c)) (hc : c = l.length) (hn : nm ∉ l.map (·.1)) :
    putM 1 H (.map id) (.str nm) (.bool b) = some (H.set id (.map (entsE (l ++ [(nm, b)]) 0) (l ++ [(nm, b)]).length)) := by
  have hj := findE l nm 0 0
  have h2 : (l.findIdx? (·.1 == nm)) = none := by
    cases hq : l.findIdx? (·.1 == nm) with
    | none => rfl
    | some j =>
      have h3 : (l.findIdx? (·.1 == nm)).isSome = true := by rw [hq]; rfl
      rw [List.findIdx?_isSome, List.any_eq_true] at h3
      obtain ⟨p, hp, he⟩ := h3
      exact absurd (List.mem_map.2 ⟨p, hp, by simpa using he⟩) hn
  rw [h2] at hj
  subst hc
  simp only [putM, h, hj]
  rw [entsE_append, List.length_append, Nat.zero_add]
  rfl

theorem addBy_nodup {B : List (Bytes × TA)} (h : (B.map (·.1)).Nodup) (p : Bytes × TA) : ((addBy B p).map (·.1)).Nodup := by
  unfold addBy
  split
  · exact h
  · rename_i hs
    rw [List.map_append, List.nodup_append]
    refine ⟨h, by simp, fun a ha b hb => ?_⟩
    simp only [List.map_cons, List.map_nil, List.mem_singleton] at hb
    subst hb
    rintro rfl
    obtain ⟨q, hq, he⟩ := List.mem_map.1 ha
    exact hs (by rw [List.find?_isSome]; exact ⟨q, hq, by simp [he]⟩)
theorem newBy_nodup (l : List (Bytes × TA)) : ((newBy l).map (·.1)).Nodup := by
  have key : ∀ (l B : List (Bytes × TA)), (B.map (·.1)).Nodup → ((l.foldl addBy B).map (·.1)).Nodup := by
    intro l
    induction l with
    | nil => exact fun B h => h
    | cons p l ih => exact fun B h => ih _ (addBy_nodup h p)
  exact key l [] (by simp)

structure SeenOK (by_ : List (Bytes × TA)) (seen : List Nat) (em : List (Bytes × Bool)) : Prop where
  nodup : seen.Nodup
  lt : ∀ k ∈ seen, k < by_.length
  keys : em.map (·.1) = seen.map fun k => (by_[k]?.map (·.1)).getD []
  val : ∀ q ∈ em, ∃ p ∈ by_, p.1 = q.1 ∧ ∃ n s, comesF by_ p.1 n p.2 [] = some (q.2, s)
theorem nodup_idx {by_ : List (Bytes × TA)} (h : (by_.map (·.1)).Nodup) {i j : Nat} (hi : i < by_.length) (hj : j < by_.length) (e : by_[i].1 = by_[j].1) : i = j := by
  have := (List.getElem_inj (h₀ := by simpa using hi) (h₁ := by simpa using hj) h).1 (by simpa using e)
  exact this
theorem SeenOK.notin {by_ : List (Bytes × TA)} (hn : (by_.map (·.1)).Nodup) {seen : List Nat} {em : List (Bytes × Bool)} (h : SeenOK by_ seen em) {k : Nat} (hk : k < by_.length) (hs : k ∉ seen) : by_[k].1 ∉ em.map (·.1) := by
  rw [h.keys]
  intro hm
  obtain ⟨j, hj, e⟩ := List.mem_map.1 hm
  have hjl := h.lt j hj
  rw [List.getElem?_eq_getElem hjl] at e
  have := nodup_idx hn hjl hk e
  subst this
  exact hs hj
theorem SeenOK.add {by_ : List (Bytes × TA)} {seen : List Nat} {em : List (Bytes × Bool)} (h : SeenOK by_ seen em) {k : Nat} (hk : k < by_.length) (hs : k ∉ seen) {b : Bool} {n : Nat} {s : List Bytes} (hc : comesF by_ by_[k].1 n by_[k].2 [] = some (b, s)) : SeenOK by_ (seen ++ [k]) (em ++ [(by_[k].1, b)]) := by
  refine ⟨?_, fun j hj => ?_, ?_, fun q hq => ?_⟩
  · rw [List.nodup_append]
    exact ⟨h.nodup, by simp, fun a ha b hb => by simp only [List.mem_singleton] at hb; subst hb; rintro rfl; exact hs ha⟩
  · rcases List.mem_append.1 hj with hj | hj
    · exact h.lt j hj
    · simp only [List.mem_singleton] at hj; subst hj; exact hk
  · rw [List.map_append, List.map_append, h.keys]
    simp [List.getElem?_eq_getElem hk]
  · rcases List.mem_append.1 hq with hq | hq
    · exact h.val q hq
    · simp only [List.mem_singleton] at hq; subst hq; exact ⟨by_[k], List.getElem_mem hk, rfl, n, s, hc⟩
theorem SeenOK.done {by_ : List (Bytes × TA)} (hn : (by_.map (·.1)).Nodup) {seen : List Nat} {em : List (Bytes × Bool)} (h : SeenOK by_ seen em) (hall : ∀ k, k < by_.length → k ∈ seen) : NewOK by_ ⟨by_, em⟩ := by
  refine ⟨rfl, fun p hp => ?_⟩
  obtain ⟨k, hk, rfl⟩ := List.getElem_of_mem hp
  have hmem : by_[k].1 ∈ em.map (·.1) := by
    rw [h.keys]
    exact List.mem_map.2 ⟨k, hall k hk, by rw [List.getElem?_eq_getElem hk]; rfl⟩
  have hsome : (em.find? (·.1 == by_[k].1)).isSome = true := by
    rw [List.find?_isSome]
    obtain ⟨q, hq, e⟩ := List.mem_map.1 hmem
    exact ⟨q, hq, by simp [e]⟩
  obtain ⟨q, hq⟩ := Option.isSome_iff_exists.1 hsome
  have hqe : q.1 = by_[k].1 := by simpa using List.find?_some (p := fun x : Bytes × Bool => x.1 == by_[k].1) hq
  obtain ⟨p, hp2, e1, n, s, hc⟩ := h.val q (List.mem_of_find?_eq_some hq)
  obtain ⟨j, hj, rfl⟩ := List.getElem_of_mem hp2
  have := nodup_idx hn hj hk (e1.trans hqe)
  subst this
  exact ⟨n, q.2, s, hc, by unfold lookE; rw [hq]; rfl⟩

theorem New_spec (F : AliFns2 T) (l : List (Bytes × TA)) (hl : l.length ≤ 2 ^ 30) (hok : ∀ p ∈ l, okN p.2) (hE : ∀ p ∈ newBy l, wtT p.2 ≤ 2 ^ 40) (hF : ∀ p ∈ newBy l, ∃ n b s, comesF (newBy l) p.1 n p.2 [] = some (b, s)) :
    ACalls T.L 144 [.lst (defVs l) .none] [] fun r H' => ∃ e, NewOK (newBy l) e ∧ r = .ret (.ptr 2 0) ∧ H' = eheap e := by
  refine ACalls.cut (ACalls.mono (Q := fun r H' => ∃ e J, NewOK (newBy l) e ∧ r = .ret (.ptr 2 0) ∧ H' = eheap e ++ J) ?_ fun r H' ⟨e, J, e1, e2, e3⟩ => ⟨.ret (.ptr 2 0), eheap e, J, e3, by rw [e2]; exact Weak.refl _, Low.ptr 2 0 (show 2 < 3 by decide), Nat.zero_le _, low_eheap e, e, e1, rfl, rfl⟩)
  refine acallsG F.h144 (by simp [c_144]) ?_
  conv => whnf
  intro I hI hG
  have key : ∀ (d j : Nat) (e : Env), l.length - j = d → j ≤ l.length → I (setL e [(3, .ptr 2 0), (13, .lst (defVs l) .none), (14, .int .i64 l.length), (15, .int .i64 j)]) [.map (entsT ((l.take j).foldl addBy []) 0) ((l.take j).foldl addBy []).length, .map [] 0, .cells [.map 0, .map 1] 234] := by
    intro d
    induction d with
    | zero =>
      intro j e hd hj
      have hjl : j = l.length := by omega
      apply hI
      rw [hjl, List.take_length]
      conv => whnf
      rw [lt_false (Nat.le_refl _)]
      conv => whnf
      obtain ⟨B, hB⟩ : ∃ B, newBy l = B := ⟨_, rfl⟩
      have hnd := newBy_nodup l
      rw [hB] at hE hF hnd
      rw [show l.foldl addBy [] = B from hB, hB]
      clear hI hG I
      intro I hI hG
      have key2 : ∀ (d : Nat) (seen : List Nat) (em : List (Bytes × Bool)) (e : Env), B.length - seen.length = d → SeenOK B seen em → I (setL e [(3, .ptr 2 0), (45, .ptr 3 0)]) [.map (entsT B 0) B.length, .map (entsE em 0) em.length, .cells [.map 0, .map 1] 234, .miter (some 0) B.length seen B.length] := by
        intro d
        induction d using Nat.strongRecOn with
        | ind d ih2 =>
          intro seen em e hd hS
          apply hI
          conv => whnf
          refine next_T (l := B) (n := B.length) rfl rfl (fun k hk hks => ?_) fun hall => ?_
          · have hS2 := fun b n s hc => hS.add hk hks (b := b) (n := n) (s := s) hc
            have hlen : seen.length < B.length := by
              obtain ⟨n, b, s, hc⟩ := hF _ (List.getElem_mem hk)
              have h1 := hS2 b n s hc
              have h2 := h1.nodup.length_le_of_subset (l₂ := List.range B.length) fun j hj => List.mem_range.2 (h1.lt j hj)
              simp at h2
              omega
            have hnot := hS.notin hnd hk hks
            have hlk : lookP B B[k].1 = B[k].2 := lookP_mem hnd (List.getElem_mem hk)
            have hmem : B[k].1 ∈ B.map (·.1) := List.mem_map.2 ⟨_, List.getElem_mem hk, rfl⟩
            have hentry := entry_T (H := [.map (entsT B 0) B.length, .map (entsE em 0) em.length, .cells [.map 0, .map 1] 234, .miter (some 0) B.length (seen ++ [k]) B.length]) (m := 0) (id := 3) (seen := seen) rfl rfl hk
            obtain ⟨n, b, s, hc⟩ := hF _ (List.getElem_mem hk)
            have hS3 := hS2 b n s hc
            have hcomes := comes_spec F ⟨B, em⟩ hE _ n _ _ _ _ hc (hE _ (List.getElem_mem hk))
            have hnext := fun e => ih2 (B.length - (seen ++ [k]).length) (by simp; omega) (seen ++ [k]) _ e rfl hS3
            clear hS3 hS2 hc hF hS
            generalize B[k] = v at *
            obtain ⟨nm, ⟨vk, vn, vs, vl⟩⟩ := v
            have hlook := fun H c z h => lookM_T (H := H) (id := 0) (c := c) (x := B) (nm := nm) (z := z) h hmem
            rw [hlk] at hlook
            have hcall : CallK T.L 187 [.ptr 2 0, .str nm, (TA.mk vk vn vs vl).av, .map 3] [.map (entsT B 0) B.length, .map (entsE em 0) em.length, .cells [.map 0, .map 1] 234, .map [] 0] (.bool b) [.map (entsT B 0) B.length, .map (entsE em 0) em.length, .cells [.map 0, .map 1] 234, .map (entsS s 0) s.length] := hcomes
            have hcall2 := CallK.at3 (it := .miter (some 0) B.length (seen ++ [k]) B.length) (args' := [.ptr 2 0, .str nm, (TA.mk vk vn vs vl).av, .map 4]) hcall (by
              have hr : ∀ x : AVal, Low 3 x → ren (nameOf [0, 1, 2, 4] 5) x = x := fun x hx => ren_low (n := 3) (fun i hi => by
                match i, hi with
                | 0, _ => rfl
                | 1, _ => rfl
                | 2, _ => rfl
                | i + 3, h => omega) hx
              rw [List.map_cons, List.map_cons, List.map_cons, List.map_cons, hr _ (low_ta 3 _)]
              rfl) rfl ⟨entsT_low 3 _ _, entsE_low 3 _ _, lowC ⟨.map _ (by decide : 0 < 3), .map _ (by decide : 1 < 3), trivial⟩, fun e he => (by cases he), trivial⟩ ⟨entsT_low 3 _ _, entsE_low 3 _ _, lowC ⟨.map _ (by decide : 0 < 3), .map _ (by decide : 1 < 3), trivial⟩, entsS_low 3 _ _, trivial⟩
            have hput := fun H h => put_E (H := H) (id := 1) (c := em.length) (l := em) (nm := nm) (b := b) h rfl hnot
            conv => whnf
            refine step_some hentry ?_
            conv => whnf
            refine ⟨?_, ?_⟩
            all_goals
              conv => whnf
              refine step_some (hlook _ B.length _ rfl) ?_
              conv => whnf
              refine hcall2.to1 ?_
              conv => whnf
              refine ⟨⟨rfl, trivial⟩, ?_⟩
              conv => whnf
              refine step_someH (hput _ rfl) ?_
              conv => whnf
              exact hG.keep [(3, .ptr 2 0), (45, .ptr 3 0)] [.map (entsT B 0) B.length, .map (entsE (em ++ [(nm, b)]) 0) (em ++ [(nm, b)]).length, .cells [.map 0, .map 1] 234, .miter (some 0) B.length (seen ++ [k]) B.length] (Nat.le_refl 4) rfl ⟨rfl, rfl, trivial⟩ ⟨.ptr _ _ (by decide : 2 < 4), .ptr _ _ (by decide : 3 < 4), trivial⟩
                ⟨entsT_low 4 _ _, entsE_low 4 _ _, lowC ⟨.map _ (by decide : 0 < 4), .map _ (by decide : 1 < 4), trivial⟩, (by decide : 0 < 4), trivial⟩ (hnext _)
          · conv => whnf
            exact ⟨⟨B, em⟩, _, hS.done hnd hall, rfl, rfl⟩
      exact inv_of [(3, .ptr 2 0), (45, .ptr 3 0)] ⟨rfl, rfl, trivial⟩ (key2 B.length [] [] _ (by simp) ⟨by simp, fun k hk => (by cases hk), rfl, fun q hq => (by cases hq)⟩)
    | succ d ihd =>
      intro j e hd hj
      have hjl : j < l.length := by omega
      have hnext := fun e => ihd (j + 1) e (by omega) hjl
      have hget := defVs_at hjl
      have hN := Norm_spec F.toTypFns l[j].2 (hok _ (List.getElem_mem hjl))
      rw [List.take_succ_eq_append_getElem hjl, List.foldl_append] at hnext
      simp only [List.foldl_cons, List.foldl_nil] at hnext
      generalize (l.take j).foldl addBy [] = B at hnext ⊢
      generalize l[j] = v at hnext hget hN
      obtain ⟨nm, t⟩ := v
      have hadd : addBy B (nm, t) = if (B.find? (·.1 == nm)).isSome then B else B ++ [(nm, normT t)] := rfl
      rw [hadd] at hnext
      have hput := fun H id c h hc hn => put_T (H := H) (id := id) (c := c) (l := B) (nm := nm) (t := normT t) h hc hn
      generalize normT t = u at hN hnext hput
      obtain ⟨uk, un, us, ul⟩ := u
      obtain ⟨tk, tn, ts, tl⟩ := t
      apply hI
      conv => whnf
      rw [lt_true hjl]
      conv => whnf
      refine step_elem (Int.natCast_nonneg _) hget rfl ?_
      conv => whnf
      obtain ⟨xk, xn, xs, ys, xt, hx⟩ := look_has (H := [.map (entsT B 0) B.length, .map [] 0, .cells [.map 0, .map 1] 234, .cells [.str nm, .int .i64 tk, .str tn, .lst (strA ts) .none, .lst (TA.avs tl) .none] 182, .cells [.int .i64 0, .str [], .lst [] .nil, .lst [] .nil] 175]) (id := 0) (c := B.length) (l := B) rfl nm
      have hlowB : ∀ B' : List (Bytes × TA), LowHs 3 [.map (entsT B' 0) B'.length, .map [] 0, .cells [.map 0, .map 1] 234] := fun B' =>
        ⟨entsT_low 3 _ _, fun e he => (by cases he), lowC ⟨.map _ (by decide : 0 < 3), .map _ (by decide : 1 < 3), trivial⟩, trivial⟩
      have fin : ∀ (B' : List (Bytes × TA)) (e3 : Env) (H3 : Heap), (if (B.find? (·.1 == nm)).isSome then B else B ++ [(nm, .mk uk un us ul)]) = B' → H3.take 3 = [.map (entsT B' 0) B'.length, .map [] 0, .cells [.map 0, .map 1] 234] →
          envHas e3 [(3, .ptr 2 0), (13, .lst (defVs l) .none), (14, .int .i64 l.length), (15, .int .i64 (j + 1 : Nat))] → I e3 H3 := fun B' e3 H3 h0 h1 h2 => by
        subst h0
        exact hG.keep [(3, .ptr 2 0), (13, .lst (defVs l) .none), (14, .int .i64 l.length), (15, .int .i64 (j + 1 : Nat))] [.map (entsT (if (B.find? (·.1 == nm)).isSome then B else B ++ [(nm, .mk uk un us ul)]) 0) (if (B.find? (·.1 == nm)).isSome then B else B ++ [(nm, .mk uk un us ul)]).length, .map [] 0, .cells [.map 0, .map 1] 234] (Nat.le_refl 3) h1 h2 ⟨.ptr _ _ (by decide : 2 < 3), .lst _ _ trivial (low_defVs 3 l), .int _ _, .int _ _, trivial⟩ (hlowB _) (hnext _)
      refine step_some hx ?_
      cases hb : (B.find? (·.1 == nm)).isSome
      · rw [hb] at fin
        have hp := fun H c h hc => hput H 0 c h hc hb
        conv => whnf
        refine ⟨?fst, ?_⟩
        case' fst =>
          conv => whnf
          refine ⟨?_, ?_⟩
        all_goals conv => whnf
        all_goals
          refine hN.to ?_
          conv => whnf
          refine ⟨⟨rfl, rfl, trivial⟩, ?_⟩
          conv => whnf
          refine step_someH (hp _ B.length rfl rfl) ?_
          conv => whnf
          exact fin _ _ _ rfl rfl ⟨rfl, rfl, rfl, add1 (by omega), trivial⟩
      · rw [hb] at fin
        conv => whnf
        refine ⟨?snd0, ?_⟩
        case' snd0 =>
          conv => whnf
          refine ⟨?_, ?_⟩
        all_goals conv => whnf
        all_goals exact fin B _ _ rfl rfl ⟨rfl, rfl, rfl, add1 (by omega), trivial⟩
  exact inv_of [(3, .ptr 2 0), (13, .lst (defVs l) .none), (14, .int .i64 l.length), (15, .int .i64 0)] ⟨rfl, rfl, by show AVal.int .i64 ((defVs l).length : Nat) = _; simp [defVs], rfl, trivial⟩ (key l.length 0 _ rfl (Nat.zero_le _))

end Go.Ag
/- Abstract codes, printed by a program of ours (acode.py) out of the given program's form. -/
namespace Go.Ag
open Go
def c_326 : AFunc := (.mk 2 123 [(.tmp 4)] (.seq (.ops [(.mk (some 4) (.mv (.const (.bool false))) none)]) (.seq (.seq (.ops [(.mk (some 17) (.call 161 []) none), (.mk (some 18) (.un .not (.tmp 17)) none)]) (.cond (.tmp 18) (.seq (.ops [(.mk (some 4) (.mv (.const (.bool false))) none)]) .ret) .skip)) (.seq (.ops [(.mk (some 20) (.mv (.tmp 0)) none), (.mk (some 21) (.call 142 [(.tmp 20)]) none), (.mk (some 19) (.mv (.tmp 21)) none), (.mk (some 22) (.ext (.tmp 19) 0) none), (.mk (some 23) (.ext (.tmp 19) 1) none), (.mk (some 5) (.alloc [(.int .i64 0), (.str []), (.lst [] .nil), (.lst [] .nil)] 175) none), (.mk none (.store 4 (.tmp 5) (.tmp 22)) none), (.mk (some 6) (.mv (.tmp 23)) none)]) (.seq (.ops [(.mk (some 25) (.mv (.tmp 1)) none), (.mk (some 26) (.call 142 [(.tmp 25)]) none), (.mk (some 24) (.mv (.tmp 26)) none), (.mk (some 27) (.ext (.tmp 24) 0) none), (.mk (some 28) (.ext (.tmp 24) 1) none), (.mk (some 7) (.alloc [(.int .i64 0), (.str []), (.lst [] .nil), (.lst [] .nil)] 175) none), (.mk none (.store 4 (.tmp 7) (.tmp 27)) none), (.mk (some 8) (.mv (.tmp 28)) none)]) (.seq (.seq (.ops [(.mk (some 29) (.mv (.tmp 6)) none), (.mk (some 30) (.un .not (.tmp 29)) none), (.mk (some 31) (.mv (.tmp 30)) none), (.mk (some 32) (.mv (.tmp 8)) (some (31, false))), (.mk (some 33) (.un .not (.tmp 32)) (some (31, false))), (.mk (some 34) (.pick (.tmp 31) (.const (.bool true)) (.tmp 33)) none), (.mk (some 35) (.mv (.tmp 34)) none), (.mk (some 36) (.mv (.tmp 0)) (some (35, false))), (.mk (some 37) (.lenS (.tmp 36)) (some (35, false))), (.mk (some 38) (.bin .gtr (.tmp 37) (.const (.int .i64 100))) (some (35, false))), (.mk (some 39) (.pick (.tmp 35) (.const (.bool true)) (.tmp 38)) none), (.mk (some 40) (.mv (.tmp 39)) none), (.mk (some 41) (.mv (.tmp 1)) (some (40, false))), (.mk (some 42) (.lenS (.tmp 41)) (some (40, false))), (.mk (some 43) (.bin .gtr (.tmp 42) (.const (.int .i64 100))) (some (40, false))), (.mk (some 44) (.pick (.tmp 40) (.const (.bool true)) (.tmp 43)) none)]) (.cond (.tmp 44) (.seq (.ops [(.mk (some 4) (.mv (.const (.bool true))) none)]) .ret) .skip)) (.seq (.ops [(.mk (some 9) (.mv (.const (.fn (.func 327) [] []))) none)]) (.seq (.drawt [(.mk (some 45) (.mv (.tmp 9)) none), (.mk (some 49) (.mv (.tmp 9)) none)] (.alt (.mk (some 46) (.load (some 4) (.tmp 5)) none) [] (.alt (.mk (some 47) (.callv (.tmp 45) [(.const (.str [108])), (.tmp 46)]) none) [] (.alt (.mk (some 48) (.build [(.str []), (.int .i64 0), (.str []), (.lst [] .nil), (.lst [] .nil)] [(0, (1, (.const (.str [108])))), (1, (4, (.tmp 47)))]) none) [] (.alt (.mk (some 50) (.load (some 4) (.tmp 7)) none) [] (.alt (.mk (some 51) (.callv (.tmp 49) [(.const (.str [109])), (.tmp 50)]) none) [] (.alt (.mk (some 52) (.build [(.str []), (.int .i64 0), (.str []), (.lst [] .nil), (.lst [] .nil)] [(0, (1, (.const (.str [109])))), (1, (4, (.tmp 51)))]) none) [] (.alt (.mk (some 53) (.call 172 [(.const (.str [105, 110, 116]))]) none) [] (.alt (.mk (some 54) (.build [(.str []), (.int .i64 0), (.str []), (.lst [] .nil), (.lst [] .nil)] [(0, (1, (.const (.str [116])))), (1, (4, (.tmp 53)))]) none) [] (.alt (.mk (some 55) (.call 172 [(.const (.str [123, 97, 58, 32, 116, 125]))]) none) [] (.alt (.mk (some 56) (.build [(.str []), (.int .i64 0), (.str []), (.lst [] .nil), (.lst [] .nil)] [(0, (1, (.const (.str [117])))), (1, (4, (.tmp 55)))]) none) [] (.alt (.mk (some 57) (.call 172 [(.const (.str [118]))]) none) [] (.alt (.mk (some 58) (.build [(.str []), (.int .i64 0), (.str []), (.lst [] .nil), (.lst [] .nil)] [(0, (1, (.const (.str [118])))), (1, (4, (.tmp 57)))]) none) [] (.alt (.mk (some 59) (.lit 5 88 [] 5 [(0, (.tmp 48)), (1, (.tmp 52)), (2, (.tmp 54)), (3, (.tmp 56)), (4, (.tmp 58))]) none) [] (.alt (.mk (some 60) (.call 144 [(.tmp 59)]) none) [] (.alt (.mk (some 10) (.mv (.tmp 60)) none) [] .done .stop) .stop) .stop) .stop) .stop) .stop) .stop) .stop) .stop) .stop) .stop) .stop) .stop) (.alt (.mk (some 50) (.load (some 4) (.tmp 7)) none) [] (.alt (.mk (some 47) (.callv (.tmp 45) [(.const (.str [108])), (.tmp 46)]) none) [] (.alt (.mk (some 48) (.build [(.str []), (.int .i64 0), (.str []), (.lst [] .nil), (.lst [] .nil)] [(0, (1, (.const (.str [108])))), (1, (4, (.tmp 47)))]) none) [] (.alt (.mk (some 51) (.callv (.tmp 49) [(.const (.str [109])), (.tmp 50)]) none) [] (.alt (.mk (some 52) (.build [(.str []), (.int .i64 0), (.str []), (.lst [] .nil), (.lst [] .nil)] [(0, (1, (.const (.str [109])))), (1, (4, (.tmp 51)))]) none) [] (.alt (.mk (some 53) (.call 172 [(.const (.str [105, 110, 116]))]) none) [] (.alt (.mk (some 54) (.build [(.str []), (.int .i64 0), (.str []), (.lst [] .nil), (.lst [] .nil)] [(0, (1, (.const (.str [116])))), (1, (4, (.tmp 53)))]) none) [] (.alt (.mk (some 55) (.call 172 [(.const (.str [123, 97, 58, 32, 116, 125]))]) none) [] (.alt (.mk (some 56) (.build [(.str []), (.int .i64 0), (.str []), (.lst [] .nil), (.lst [] .nil)] [(0, (1, (.const (.str [117])))), (1, (4, (.tmp 55)))]) none) [] (.alt (.mk (some 57) (.call 172 [(.const (.str [118]))]) none) [] (.alt (.mk (some 58) (.build [(.str []), (.int .i64 0), (.str []), (.lst [] .nil), (.lst [] .nil)] [(0, (1, (.const (.str [118])))), (1, (4, (.tmp 57)))]) none) [] (.alt (.mk (some 59) (.lit 5 88 [] 5 [(0, (.tmp 48)), (1, (.tmp 52)), (2, (.tmp 54)), (3, (.tmp 56)), (4, (.tmp 58))]) none) [] (.alt (.mk (some 60) (.call 144 [(.tmp 59)]) none) [] (.alt (.mk (some 10) (.mv (.tmp 60)) none) [] .done .stop) .stop) .stop) .stop) .stop) .stop) .stop) .stop) .stop) .stop) .stop) .stop) .stop) .stop)) .stop)) (.seq (.ops [(.mk (some 61) (.build [(.int .i64 0), (.str []), (.lst [] .nil), (.lst [] .nil)] [(0, (1, (.const (.int .i64 8)))), (1, (1, (.const (.str [108]))))]) none), (.mk (some 62) (.build [(.int .i64 0), (.str []), (.lst [] .nil), (.lst [] .nil)] [(0, (1, (.const (.int .i64 8)))), (1, (1, (.const (.str [109]))))]) none), (.mk (some 11) (.alloc [(.int .i64 0), (.str []), (.lst [] .nil), (.lst [] .nil)] 175) none), (.mk (some 12) (.alloc [(.int .i64 0), (.str []), (.lst [] .nil), (.lst [] .nil)] 175) none), (.mk none (.store 4 (.tmp 11) (.tmp 61)) none), (.mk none (.store 4 (.tmp 12) (.tmp 62)) none)]) (.seq (.drawt [(.mk (some 63) (.mv (.tmp 10)) none), (.mk (some 67) (.mv (.tmp 10)) none)] (.alt (.mk (some 64) (.load (some 4) (.tmp 5)) none) [] (.alt (.mk (some 65) (.load (some 4) (.tmp 7)) none) [] (.alt (.mk (some 66) (.call 162 [(.tmp 63), (.tmp 64), (.tmp 65)]) none) [] (.alt (.mk (some 68) (.load (some 4) (.tmp 5)) none) [] (.alt (.mk (some 69) (.load (some 4) (.tmp 7)) none) [] (.alt (.mk (some 70) (.call 163 [(.tmp 67), (.tmp 68), (.tmp 69)]) none) [] (.alt (.mk (some 13) (.mv (.tmp 66)) none) [] (.alt (.mk (some 14) (.mv (.tmp 70)) none) [] .done .stop) .stop) .stop) .stop) .stop) (.alt (.mk (some 68) (.load (some 4) (.tmp 5)) none) [] (.alt (.mk (some 66) (.call 162 [(.tmp 63), (.tmp 64), (.tmp 65)]) none) [] (.alt (.mk (some 69) (.load (some 4) (.tmp 7)) none) [] (.alt (.mk (some 70) (.call 163 [(.tmp 67), (.tmp 68), (.tmp 69)]) none) [] (.alt (.mk (some 13) (.mv (.tmp 66)) none) [] (.alt (.mk (some 14) (.mv (.tmp 70)) none) [] .done .stop) .stop) .stop) .stop) (.alt (.mk (some 69) (.load (some 4) (.tmp 7)) none) [] (.alt (.mk (some 66) (.call 162 [(.tmp 63), (.tmp 64), (.tmp 65)]) none) [] (.alt (.mk (some 70) (.call 163 [(.tmp 67), (.tmp 68), (.tmp 69)]) none) [] (.alt (.mk (some 13) (.mv (.tmp 66)) none) [] (.alt (.mk (some 14) (.mv (.tmp 70)) none) [] .done .stop) .stop) .stop) .stop) .stop)) (.alt (.mk (some 69) (.load (some 4) (.tmp 7)) none) [] (.alt (.mk (some 66) (.call 162 [(.tmp 63), (.tmp 64), (.tmp 65)]) none) [] (.alt (.mk (some 68) (.load (some 4) (.tmp 5)) none) [] (.alt (.mk (some 70) (.call 163 [(.tmp 67), (.tmp 68), (.tmp 69)]) none) [] (.alt (.mk (some 13) (.mv (.tmp 66)) none) [] (.alt (.mk (some 14) (.mv (.tmp 70)) none) [] .done .stop) .stop) .stop) .stop) (.alt (.mk (some 68) (.load (some 4) (.tmp 5)) none) [] (.alt (.mk (some 66) (.call 162 [(.tmp 63), (.tmp 64), (.tmp 65)]) none) [] (.alt (.mk (some 70) (.call 163 [(.tmp 67), (.tmp 68), (.tmp 69)]) none) [] (.alt (.mk (some 13) (.mv (.tmp 66)) none) [] (.alt (.mk (some 14) (.mv (.tmp 70)) none) [] .done .stop) .stop) .stop) .stop) .stop)) .stop))) .stop) .stop)) (.seq (.ops [(.mk (some 71) (.mv (.tmp 9)) none), (.mk (some 72) (.load (some 4) (.tmp 5)) none), (.mk (some 73) (.callv (.tmp 71) [(.const (.str [108])), (.tmp 72)]) none), (.mk (some 15) (.alloc [(.int .i64 0), (.str []), (.lst [] .nil), (.lst [] .nil)] 175) none), (.mk none (.store 4 (.tmp 15) (.tmp 73)) none)]) (.seq (.ops [(.mk (some 74) (.mv (.tmp 9)) none), (.mk (some 75) (.load (some 4) (.tmp 5)) none), (.mk (some 76) (.callv (.tmp 74) [(.const (.str [108])), (.tmp 75)]) none), (.mk (some 16) (.alloc [(.int .i64 0), (.str []), (.lst [] .nil), (.lst [] .nil)] 175) none), (.mk none (.store 4 (.tmp 16) (.tmp 76)) none)]) (.seq (.drawt [(.mk (some 77) (.faddr 3 (.tmp 16)) none)] (.alt (.mk (some 78) (.load none (.tmp 77)) none) [] (.alt (.mk (some 79) (.iaddr 4 (.tmp 78) (.const (.int .i64 1))) none) [] (.alt (.mk (some 80) (.faddr 3 (.tmp 79)) none) [] (.alt (.mk (some 81) (.load none (.tmp 80)) none) [] (.alt (.mk (some 82) (.load (some 4) (.tmp 15)) none) [] (.alt (.mk (some 83) (.iaddr 4 (.tmp 81) (.const (.int .i64 1))) none) [] (.alt (.mk none (.store 4 (.tmp 83) (.tmp 82)) none) [] .done .stop) .stop) .stop) .stop) .stop) .stop) .stop)) (.seq (.drawt [(.mk (some 84) (.mv (.tmp 10)) none), (.mk (some 88) (.mv (.tmp 13)) none)] (.alt (.mk (some 85) (.load (some 4) (.tmp 11)) none) [] (.alt (.mk (some 86) (.load (some 4) (.tmp 12)) none) [] (.alt (.mk (some 87) (.call 162 [(.tmp 84), (.tmp 85), (.tmp 86)]) none) [] (.alt (.mk (some 89) (.eqBool false (.tmp 87) (.tmp 88)) none) [] (.alt (.mk (some 90) (.mv (.tmp 89)) none) [] (.alt (.mk (some 91) (.mv (.tmp 10)) (some (90, true))) [] (.alt (.mk (some 92) (.load (some 4) (.tmp 11)) (some (90, true))) [] (.alt (.mk (some 93) (.load (some 4) (.tmp 12)) (some (90, true))) [] (.alt (.mk (some 94) (.call 163 [(.tmp 91), (.tmp 92), (.tmp 93)]) (some (90, true))) [] (.alt (.mk (some 95) (.mv (.tmp 14)) (some (90, true))) [] (.alt (.mk (some 96) (.eqBool false (.tmp 94) (.tmp 95)) (some (90, true))) [] (.alt (.mk (some 97) (.pick (.tmp 90) (.tmp 96) (.const (.bool false))) none) [] (.alt (.mk (some 98) (.mv (.tmp 97)) none) [] (.alt (.mk (some 99) (.mv (.tmp 10)) (some (98, true))) [] (.alt (.mk (some 100) (.load (some 4) (.tmp 11)) (some (98, true))) [] (.alt (.mk (some 101) (.load (some 4) (.tmp 15)) (some (98, true))) [] (.alt (.mk (some 102) (.call 169 [(.tmp 99), (.tmp 100), (.tmp 101)]) (some (98, true))) [] (.alt (.mk (some 103) (.pick (.tmp 98) (.tmp 102) (.const (.bool false))) none) [] (.alt (.mk (some 104) (.mv (.tmp 103)) none) [] (.alt (.mk (some 105) (.mv (.tmp 10)) (some (104, true))) [] (.alt (.mk (some 106) (.load (some 4) (.tmp 16)) (some (104, true))) [] (.alt (.mk (some 107) (.load (some 4) (.tmp 11)) (some (104, true))) [] (.alt (.mk (some 108) (.call 169 [(.tmp 105), (.tmp 106), (.tmp 107)]) (some (104, true))) [] (.alt (.mk (some 109) (.pick (.tmp 104) (.tmp 108) (.const (.bool false))) none) [] (.alt (.mk (some 110) (.mv (.tmp 109)) none) [] (.alt (.mk (some 111) (.mv (.tmp 10)) (some (110, true))) [] (.alt (.mk (some 112) (.load (some 4) (.tmp 11)) (some (110, true))) [] (.alt (.mk (some 113) (.call 172 [(.const (.str [116, 101, 120, 116]))]) (some (110, true))) [] (.alt (.mk (some 114) (.call 162 [(.tmp 111), (.tmp 112), (.tmp 113)]) (some (110, true))) [] (.alt (.mk (some 115) (.un .not (.tmp 114)) (some (110, true))) [] (.alt (.mk (some 116) (.pick (.tmp 110) (.tmp 115) (.const (.bool false))) none) [] (.alt (.mk (some 117) (.mv (.tmp 116)) none) [] (.alt (.mk (some 118) (.mv (.tmp 10)) (some (117, true))) [] (.alt (.mk (some 119) (.call 172 [(.const (.str [116, 101, 120, 116]))]) (some (117, true))) [] (.alt (.mk (some 120) (.load (some 4) (.tmp 12)) (some (117, true))) [] (.alt (.mk (some 121) (.call 162 [(.tmp 118), (.tmp 119), (.tmp 120)]) (some (117, true))) [] (.alt (.mk (some 122) (.pick (.tmp 117) (.tmp 121) (.const (.bool false))) none) [] (.alt (.mk (some 4) (.mv (.tmp 122)) none) [] .done .stop) .stop) .stop) .stop) (.alt (.mk (some 120) (.load (some 4) (.tmp 12)) (some (117, true))) [] (.alt (.mk (some 119) (.call 172 [(.const (.str [116, 101, 120, 116]))]) (some (117, true))) [] (.alt (.mk (some 121) (.call 162 [(.tmp 118), (.tmp 119), (.tmp 120)]) (some (117, true))) [] (.alt (.mk (some 122) (.pick (.tmp 117) (.tmp 121) (.const (.bool false))) none) [] (.alt (.mk (some 4) (.mv (.tmp 122)) none) [] .done .stop) .stop) .stop) .stop) .stop)) .stop) .stop) .stop) .stop) .stop) .stop) (.alt (.mk (some 113) (.call 172 [(.const (.str [116, 101, 120, 116]))]) (some (110, true))) [] (.alt (.mk (some 112) (.load (some 4) (.tmp 11)) (some (110, true))) [] (.alt (.mk (some 114) (.call 162 [(.tmp 111), (.tmp 112), (.tmp 113)]) (some (110, true))) [] (.alt (.mk (some 115) (.un .not (.tmp 114)) (some (110, true))) [] (.alt (.mk (some 116) (.pick (.tmp 110) (.tmp 115) (.const (.bool false))) none) [] (.alt (.mk (some 117) (.mv (.tmp 116)) none) [] (.alt (.mk (some 118) (.mv (.tmp 10)) (some (117, true))) [] (.alt (.mk (some 119) (.call 172 [(.const (.str [116, 101, 120, 116]))]) (some (117, true))) [] (.alt (.mk (some 120) (.load (some 4) (.tmp 12)) (some (117, true))) [] (.alt (.mk (some 121) (.call 162 [(.tmp 118), (.tmp 119), (.tmp 120)]) (some (117, true))) [] (.alt (.mk (some 122) (.pick (.tmp 117) (.tmp 121) (.const (.bool false))) none) [] (.alt (.mk (some 4) (.mv (.tmp 122)) none) [] .done .stop) .stop) .stop) .stop) (.alt (.mk (some 120) (.load (some 4) (.tmp 12)) (some (117, true))) [] (.alt (.mk (some 119) (.call 172 [(.const (.str [116, 101, 120, 116]))]) (some (117, true))) [] (.alt (.mk (some 121) (.call 162 [(.tmp 118), (.tmp 119), (.tmp 120)]) (some (117, true))) [] (.alt (.mk (some 122) (.pick (.tmp 117) (.tmp 121) (.const (.bool false))) none) [] (.alt (.mk (some 4) (.mv (.tmp 122)) none) [] .done .stop) .stop) .stop) .stop) .stop)) .stop) .stop) .stop) .stop) .stop) .stop) .stop)) .stop) .stop) .stop) .stop) .stop) .stop) .stop) .stop) .stop) .stop) .stop) .stop) .stop) .stop) .stop) .stop) .stop) (.alt (.mk (some 95) (.mv (.tmp 14)) (some (90, true))) [] (.alt (.mk (some 94) (.call 163 [(.tmp 91), (.tmp 92), (.tmp 93)]) (some (90, true))) [] (.alt (.mk (some 96) (.eqBool false (.tmp 94) (.tmp 95)) (some (90, true))) [] (.alt (.mk (some 97) (.pick (.tmp 90) (.tmp 96) (.const (.bool false))) none) [] (.alt (.mk (some 98) (.mv (.tmp 97)) none) [] (.alt (.mk (some 99) (.mv (.tmp 10)) (some (98, true))) [] (.alt (.mk (some 100) (.load (some 4) (.tmp 11)) (some (98, true))) [] (.alt (.mk (some 101) (.load (some 4) (.tmp 15)) (some (98, true))) [] (.alt (.mk (some 102) (.call 169 [(.tmp 99), (.tmp 100), (.tmp 101)]) (some (98, true))) [] (.alt (.mk (some 103) (.pick (.tmp 98) (.tmp 102) (.const (.bool false))) none) [] (.alt (.mk (some 104) (.mv (.tmp 103)) none) [] (.alt (.mk (some 105) (.mv (.tmp 10)) (some (104, true))) [] (.alt (.mk (some 106) (.load (some 4) (.tmp 16)) (some (104, true))) [] (.alt (.mk (some 107) (.load (some 4) (.tmp 11)) (some (104, true))) [] (.alt (.mk (some 108) (.call 169 [(.tmp 105), (.tmp 106), (.tmp 107)]) (some (104, true))) [] (.alt (.mk (some 109) (.pick (.tmp 104) (.tmp 108) (.const (.bool false))) none) [] (.alt (.mk (some 110) (.mv (.tmp 109)) none) [] (.alt (.mk (some 111) (.mv (.tmp 10)) (some (110, true))) [] (.alt (.mk (some 112) (.load (some 4) (.tmp 11)) (some (110, true))) [] (.alt (.mk (some 113) (.call 172 [(.const (.str [116, 101, 120, 116]))]) (some (110, true))) [] (.alt (.mk (some 114) (.call 162 [(.tmp 111), (.tmp 112), (.tmp 113)]) (some (110, true))) [] (.alt (.mk (some 115) (.un .not (.tmp 114)) (some (110, true))) [] (.alt (.mk (some 116) (.pick (.tmp 110) (.tmp 115) (.const (.bool false))) none) [] (.alt (.mk (some 117) (.mv (.tmp 116)) none) [] (.alt (.mk (some 118) (.mv (.tmp 10)) (some (117, true))) [] (.alt (.mk (some 119) (.call 172 [(.const (.str [116, 101, 120, 116]))]) (some (117, true))) [] (.alt (.mk (some 120) (.load (some 4) (.tmp 12)) (some (117, true))) [] (.alt (.mk (some 121) (.call 162 [(.tmp 118), (.tmp 119), (.tmp 120)]) (some (117, true))) [] (.alt (.mk (some 122) (.pick (.tmp 117) (.tmp 121) (.const (.bool false))) none) [] (.alt (.mk (some 4) (.mv (.tmp 122)) none) [] .done .stop) .stop) .stop) .stop) (.alt (.mk (some 120) (.load (some 4) (.tmp 12)) (some (117, true))) [] (.alt (.mk (some 119) (.call 172 [(.const (.str [116, 101, 120, 116]))]) (some (117, true))) [] (.alt (.mk (some 121) (.call 162 [(.tmp 118), (.tmp 119), (.tmp 120)]) (some (117, true))) [] (.alt (.mk (some 122) (.pick (.tmp 117) (.tmp 121) (.const (.bool false))) none) [] (.alt (.mk (some 4) (.mv (.tmp 122)) none) [] .done .stop) .stop) .stop) .stop) .stop)) .stop) .stop) .stop) .stop) .stop) .stop) (.alt (.mk (some 113) (.call 172 [(.const (.str [116, 101, 120, 116]))]) (some (110, true))) [] (.alt (.mk (some 112) (.load (some 4) (.tmp 11)) (some (110, true))) [] (.alt (.mk (some 114) (.call 162 [(.tmp 111), (.tmp 112), (.tmp 113)]) (some (110, true))) [] (.alt (.mk (some 115) (.un .not (.tmp 114)) (some (110, true))) [] (.alt (.mk (some 116) (.pick (.tmp 110) (.tmp 115) (.const (.bool false))) none) [] (.alt (.mk (some 117) (.mv (.tmp 116)) none) [] (.alt (.mk (some 118) (.mv (.tmp 10)) (some (117, true))) [] (.alt (.mk (some 119) (.call 172 [(.const (.str [116, 101, 120, 116]))]) (some (117, true))) [] (.alt (.mk (some 120) (.load (some 4) (.tmp 12)) (some (117, true))) [] (.alt (.mk (some 121) (.call 162 [(.tmp 118), (.tmp 119), (.tmp 120)]) (some (117, true))) [] (.alt (.mk (some 122) (.pick (.tmp 117) (.tmp 121) (.const (.bool false))) none) [] (.alt (.mk (some 4) (.mv (.tmp 122)) none) [] .done .stop) .stop) .stop) .stop) (.alt (.mk (some 120) (.load (some 4) (.tmp 12)) (some (117, true))) [] (.alt (.mk (some 119) (.call 172 [(.const (.str [116, 101, 120, 116]))]) (some (117, true))) [] (.alt (.mk (some 121) (.call 162 [(.tmp 118), (.tmp 119), (.tmp 120)]) (some (117, true))) [] (.alt (.mk (some 122) (.pick (.tmp 117) (.tmp 121) (.const (.bool false))) none) [] (.alt (.mk (some 4) (.mv (.tmp 122)) none) [] .done .stop) .stop) .stop) .stop) .stop)) .stop) .stop) .stop) .stop) .stop) .stop) .stop)) .stop) .stop) .stop) .stop) .stop) .stop) .stop) .stop) .stop) .stop) .stop) .stop) .stop) .stop) .stop) .stop) .stop) .stop)) .stop) .stop) .stop) .stop) .stop) .stop) .stop) .stop)) .ret))))))))))))))
def c_161 : AFunc := (.mk 0 27 [(.tmp 0)] (.seq (.ops [(.mk (some 0) (.mv (.const (.bool false))) none)]) (.seq (.ops [(.mk (some 2) (.call 144 [(.const (.lst [] .nil))]) none), (.mk (some 1) (.mv (.tmp 2)) none)]) (.seq (.ops [(.mk (some 3) (.mv (.tmp 1)) none), (.mk (some 4) (.call 172 [(.const (.str [123, 97, 58, 32, 105, 110, 116, 44, 32, 98, 58, 32, 63, 125]))]) none), (.mk (some 5) (.call 172 [(.const (.str [123, 97, 58, 32, 105, 110, 116, 32, 124, 32, 98, 111, 111, 108, 125]))]) none), (.mk (some 6) (.call 162 [(.tmp 3), (.tmp 4), (.tmp 5)]) none), (.mk (some 7) (.mv (.tmp 6)) none), (.mk (some 8) (.mv (.tmp 1)) (some (7, true))), (.mk (some 9) (.call 172 [(.const (.str [63]))]) (some (7, true))), (.mk (some 10) (.call 172 [(.const (.str [105, 110, 116]))]) (some (7, true))), (.mk (some 11) (.call 163 [(.tmp 8), (.tmp 9), (.tmp 10)]) (some (7, true))), (.mk (some 12) (.pick (.tmp 7) (.tmp 11) (.const (.bool false))) none), (.mk (some 13) (.mv (.tmp 12)) none), (.mk (some 14) (.mv (.tmp 1)) (some (13, true))), (.mk (some 15) (.call 172 [(.const (.str [63]))]) (some (13, true))), (.mk (some 16) (.call 172 [(.const (.str [105, 110, 116]))]) (some (13, true))), (.mk (some 17) (.call 162 [(.tmp 14), (.tmp 15), (.tmp 16)]) (some (13, true))), (.mk (some 18) (.un .not (.tmp 17)) (some (13, true))), (.mk (some 19) (.pick (.tmp 13) (.tmp 18) (.const (.bool false))) none), (.mk (some 20) (.mv (.tmp 19)) none), (.mk (some 21) (.mv (.tmp 1)) (some (20, true))), (.mk (some 22) (.call 172 [(.const (.str [105, 110, 116]))]) (some (20, true))), (.mk (some 23) (.call 172 [(.const (.str [98, 111, 111, 108]))]) (some (20, true))), (.mk (some 24) (.call 163 [(.tmp 21), (.tmp 22), (.tmp 23)]) (some (20, true))), (.mk (some 25) (.un .not (.tmp 24)) (some (20, true))), (.mk (some 26) (.pick (.tmp 20) (.tmp 25) (.const (.bool false))) none), (.mk (some 0) (.mv (.tmp 26)) none)]) .ret))))
def c_172 : AFunc := (.mk 1 11 [(.cell 2 (some 4))] (.seq (.ops [(.mk (some 2) (.alloc [(.int .i64 0), (.str []), (.lst [] .nil), (.lst [] .nil)] 175) none)]) (.seq (.ops [(.mk (some 6) (.mv (.tmp 0)) none), (.mk (some 7) (.call 142 [(.tmp 6)]) none), (.mk (some 5) (.mv (.tmp 7)) none), (.mk (some 8) (.ext (.tmp 5) 0) none), (.mk (some 9) (.ext (.tmp 5) 1) none), (.mk (some 3) (.alloc [(.int .i64 0), (.str []), (.lst [] .nil), (.lst [] .nil)] 175) none), (.mk none (.store 4 (.tmp 3) (.tmp 8)) none), (.mk (some 4) (.mv (.tmp 9)) none)]) (.seq (.ops [(.mk (some 10) (.load (some 4) (.tmp 3)) none), (.mk none (.store 4 (.tmp 2) (.tmp 10)) none)]) .ret))))
def c_327 : AFunc := (.mk 2 14 [(.cell 4 (some 4))] (.seq (.ops [(.mk (some 3) (.box 175 (.tmp 1)) none), (.mk (some 4) (.alloc [(.int .i64 0), (.str []), (.lst [] .nil), (.lst [] .nil)] 175) none)]) (.seq (.ops [(.mk (some 5) (.build [(.int .i64 0), (.str []), (.lst [] .nil), (.lst [] .nil)] [(0, (1, (.const (.int .i64 3))))]) none), (.mk (some 6) (.lit 1 16 [] 2 [(0, (.const (.str [104]))), (1, (.const (.str [116])))]) none), (.mk (some 7) (.load (some 4) (.tmp 3)) none), (.mk (some 8) (.mv (.tmp 0)) none), (.mk (some 9) (.build [(.int .i64 0), (.str []), (.lst [] .nil), (.lst [] .nil)] [(0, (1, (.const (.int .i64 8)))), (1, (1, (.tmp 8)))]) none), (.mk (some 10) (.lit 4 72 [] 2 [(0, (.tmp 7)), (1, (.tmp 9))]) none), (.mk (some 11) (.build [(.int .i64 0), (.str []), (.lst [] .nil), (.lst [] .nil)] [(0, (1, (.const (.int .i64 5)))), (2, (1, (.tmp 6))), (3, (1, (.tmp 10)))]) none), (.mk (some 12) (.lit 4 72 [] 2 [(0, (.tmp 5)), (1, (.tmp 11))]) none), (.mk (some 13) (.build [(.int .i64 0), (.str []), (.lst [] .nil), (.lst [] .nil)] [(0, (1, (.const (.int .i64 7)))), (3, (1, (.tmp 12)))]) none), (.mk none (.store 4 (.tmp 4) (.tmp 13)) none)]) .ret)))
def c_327v : AFunc := (.mk 2 14 [(.cell 4 (some 4))] (.seq (.ops [(.mk (some 3) (.box 175 (.tmp 1)) none), (.mk (some 4) (.alloc [(.int .i64 0), (.str []), (.lst [] .nil), (.lst [] .nil)] 175) none)]) (.seq (.ops [(.mk (some 5) (.build [(.int .i64 0), (.str []), (.lst [] .nil), (.lst [] .nil)] [(0, (1, (.const (.int .i64 3))))]) none), (.mk (some 6) (.litV 1 10 [(0, (.const (.str [104]))), (1, (.const (.str [116])))]) none), (.mk (some 7) (.load (some 4) (.tmp 3)) none), (.mk (some 8) (.mv (.tmp 0)) none), (.mk (some 9) (.build [(.int .i64 0), (.str []), (.lst [] .nil), (.lst [] .nil)] [(0, (1, (.const (.int .i64 8)))), (1, (1, (.tmp 8)))]) none), (.mk (some 10) (.litV 4 175 [(0, (.tmp 7)), (1, (.tmp 9))]) none), (.mk (some 11) (.build [(.int .i64 0), (.str []), (.lst [] .nil), (.lst [] .nil)] [(0, (1, (.const (.int .i64 5)))), (2, (1, (.tmp 6))), (3, (1, (.tmp 10)))]) none), (.mk (some 12) (.litV 4 175 [(0, (.tmp 5)), (1, (.tmp 11))]) none), (.mk (some 13) (.build [(.int .i64 0), (.str []), (.lst [] .nil), (.lst [] .nil)] [(0, (1, (.const (.int .i64 7)))), (3, (1, (.tmp 12)))]) none), (.mk none (.store 4 (.tmp 4) (.tmp 13)) none)]) .ret)))
end Go.Ag
/- Abstract codes, printed by a program of ours (acode.py) out of the given program's form. -/
namespace Go.Ag
open Go
def c_212 : AFunc := (.mk 2 9 [(.tmp 4)] (.seq (.ops [(.mk (some 4) (.mv (.const (.bool false))) none)]) (.seq (.ops [(.mk (some 5) (.mv (.tmp 0)) none), (.mk (some 6) (.mv (.tmp 1)) none), (.mk (some 7) (.call 245 [(.tmp 5), (.tmp 6)]) none), (.mk (some 8) (.bin .geq (.tmp 7) (.const (.int .i64 0))) none), (.mk (some 4) (.mv (.tmp 8)) none)]) .ret)))
def c_245 : AFunc := (.mk 2 19 [(.tmp 4)] (.seq (.ops [(.mk (some 4) (.mv (.const (.int .i64 0))) none)]) (.seq (.seq (.ops [(.mk (some 6) (.mv (.tmp 0)) none), (.mk (some 7) (.lenL (.tmp 6)) none), (.mk (some 8) (.mv (.const (.int .i64 0))) none)]) (.block 0 (.loop (.seq (.ops [(.mk (some 9) (.bin .lss (.tmp 8) (.tmp 7)) none)]) (.seq (.cond (.tmp 9) .skip (.exit 0)) (.seq (.block 1 (.seq (.ops [(.mk (some 10) (.mv (.tmp 8)) none), (.mk (some 5) (.mv (.tmp 10)) none)]) (.seq (.ops [(.mk (some 11) (.mv (.tmp 1)) none), (.mk (some 12) (.mv (.tmp 0)) none), (.mk (some 13) (.mv (.tmp 5)) none), (.mk (some 14) (.iaddr 4 (.tmp 12) (.tmp 13)) none), (.mk (some 15) (.load (some 4) (.tmp 14)) none), (.mk (some 16) (.callv (.tmp 11) [(.tmp 15)]) none)]) (.cond (.tmp 16) (.seq (.ops [(.mk (some 17) (.mv (.tmp 5)) none), (.mk (some 4) (.mv (.tmp 17)) none)]) .ret) .skip)))) (.ops [(.mk (some 18) (.bin .add (.tmp 8) (.const (.int .i64 1))) none), (.mk (some 8) (.mv (.tmp 18)) none)]))))))) (.seq (.ops [(.mk (some 4) (.mv (.const (.int .i64 (-1)))) none)]) .ret))))
def c_277 : AFunc := (.mk 2 9 [(.tmp 4)] (.seq (.ops [(.mk (some 3) (.box 326 (.tmp 1)) none), (.mk (some 4) (.mv (.const (.bool false))) none)]) (.seq (.ops [(.mk (some 5) (.mv (.tmp 0)) none), (.mk (some 6) (.load (some 2) (.tmp 3)) none), (.mk (some 7) (.call 302 [(.tmp 5), (.tmp 6)]) none), (.mk (some 8) (.bin .geq (.tmp 7) (.const (.int .i64 0))) none), (.mk (some 4) (.mv (.tmp 8)) none)]) .ret)))
def c_302 : AFunc := (.mk 2 19 [(.tmp 4)] (.seq (.ops [(.mk (some 3) (.box 326 (.tmp 1)) none), (.mk (some 4) (.mv (.const (.int .i64 0))) none)]) (.seq (.seq (.ops [(.mk (some 6) (.mv (.tmp 0)) none), (.mk (some 7) (.lenL (.tmp 6)) none), (.mk (some 8) (.mv (.const (.int .i64 0))) none)]) (.block 0 (.loop (.seq (.ops [(.mk (some 9) (.bin .lss (.tmp 8) (.tmp 7)) none)]) (.seq (.cond (.tmp 9) .skip (.exit 0)) (.seq (.block 1 (.seq (.ops [(.mk (some 10) (.mv (.tmp 8)) none), (.mk (some 5) (.mv (.tmp 10)) none)]) (.seq (.drawt [(.mk (some 12) (.mv (.tmp 0)) none), (.mk (some 13) (.mv (.tmp 5)) none), (.mk (some 14) (.iaddr 2 (.tmp 12) (.tmp 13)) none)] (.alt (.mk (some 11) (.load (some 2) (.tmp 3)) none) [] (.alt (.mk (some 15) (.load (some 2) (.tmp 14)) none) [] (.alt (.mk (some 16) (.eqCells [1, 1] false (.tmp 11) (.tmp 15)) none) [] .done .stop) .stop) .stop)) (.cond (.tmp 16) (.seq (.ops [(.mk (some 17) (.mv (.tmp 5)) none), (.mk (some 4) (.mv (.tmp 17)) none)]) .ret) .skip)))) (.ops [(.mk (some 18) (.bin .add (.tmp 8) (.const (.int .i64 1))) none), (.mk (some 8) (.mv (.tmp 18)) none)]))))))) (.seq (.ops [(.mk (some 4) (.mv (.const (.int .i64 (-1)))) none)]) .ret))))
def c_197 : AFunc := (.mk 2 54 [(.tmp 4), (.tmp 5)] (.seq (.ops [(.mk (some 4) (.mv (.const (.int .i64 0))) none), (.mk (some 5) (.mv (.const (.bool false))) none)]) (.seq (.ops [(.mk (some 10) (.mv (.tmp 0)) none), (.mk (some 11) (.lenL (.tmp 10)) none), (.mk (some 6) (.mv (.tmp 11)) none)]) (.seq (.ops [(.mk (some 12) (.mv (.tmp 6)) none), (.mk (some 7) (.mv (.const (.int .i64 0))) none), (.mk (some 8) (.mv (.tmp 12)) none)]) (.seq (.block 0 (.loop (.seq (.seq (.ops [(.mk (some 13) (.mv (.tmp 7)) none), (.mk (some 14) (.mv (.tmp 8)) none), (.mk (some 15) (.bin .lss (.tmp 13) (.tmp 14)) none)]) (.cond (.tmp 15) .skip (.exit 0))) (.block 1 (.seq (.ops [(.mk (some 16) (.mv (.tmp 7)) none), (.mk (some 17) (.mv (.tmp 8)) none), (.mk (some 18) (.bin .add (.tmp 16) (.tmp 17)) none), (.mk (some 19) (.convInt .u64 (.tmp 18)) none), (.mk (some 20) (.bin .shr (.tmp 19) (.const (.int .u64 1))) none), (.mk (some 21) (.convInt .i64 (.tmp 20)) none), (.mk (some 9) (.mv (.tmp 21)) none)]) (.seq (.ops [(.mk (some 22) (.mv (.tmp 0)) none), (.mk (some 23) (.mv (.tmp 9)) none), (.mk (some 24) (.iaddr 1 (.tmp 22) (.tmp 23)) none), (.mk (some 25) (.load none (.tmp 24)) none), (.mk (some 26) (.mv (.tmp 1)) none), (.mk (some 27) (.call 234 [(.tmp 25), (.tmp 26)]) none)]) (.cond (.tmp 27) (.ops [(.mk (some 28) (.mv (.tmp 9)) none), (.mk (some 29) (.bin .add (.tmp 28) (.const (.int .i64 1))) none), (.mk (some 7) (.mv (.tmp 29)) none)]) (.ops [(.mk (some 30) (.mv (.tmp 9)) none), (.mk (some 8) (.mv (.tmp 30)) none)])))))))) (.seq (.ops [(.mk (some 31) (.mv (.tmp 7)) none), (.mk (some 32) (.mv (.tmp 7)) none), (.mk (some 33) (.mv (.tmp 6)) none), (.mk (some 34) (.bin .lss (.tmp 32) (.tmp 33)) none), (.mk (some 35) (.mv (.tmp 34)) none), (.mk (some 36) (.mv (.tmp 0)) (some (35, true))), (.mk (some 37) (.mv (.tmp 7)) (some (35, true))), (.mk (some 38) (.iaddr 1 (.tmp 36) (.tmp 37)) (some (35, true))), (.mk (some 39) (.load none (.tmp 38)) (some (35, true))), (.mk (some 40) (.mv (.tmp 1)) (some (35, true))), (.mk (some 41) (.bin .eql (.tmp 39) (.tmp 40)) (some (35, true))), (.mk (some 42) (.mv (.tmp 41)) (some (35, true))), (.mk (some 43) (.mv (.tmp 0)) (some (42, false))), (.mk (some 44) (.mv (.tmp 7)) (some (42, false))), (.mk (some 45) (.iaddr 1 (.tmp 43) (.tmp 44)) (some (42, false))), (.mk (some 46) (.load none (.tmp 45)) (some (42, false))), (.mk (some 47) (.call 235 [(.tmp 46)]) (some (42, false))), (.mk (some 48) (.mv (.tmp 47)) (some (42, false))), (.mk (some 49) (.mv (.tmp 1)) (some (48, true))), (.mk (some 50) (.call 235 [(.tmp 49)]) (some (48, true))), (.mk (some 51) (.pick (.tmp 48) (.tmp 50) (.const (.bool false))) (some (42, false))), (.mk (some 52) (.pick (.tmp 42) (.const (.bool true)) (.tmp 51)) (some (35, true))), (.mk (some 53) (.pick (.tmp 35) (.tmp 52) (.const (.bool false))) none), (.mk (some 4) (.mv (.tmp 31)) none), (.mk (some 5) (.mv (.tmp 53)) none)]) .ret))))))
def c_234 : AFunc := (.mk 2 17 [(.tmp 4)] (.seq (.ops [(.mk (some 4) (.mv (.const (.bool false))) none)]) (.seq (.ops [(.mk (some 5) (.mv (.tmp 0)) none), (.mk (some 6) (.call 267 [(.tmp 5)]) none), (.mk (some 7) (.mv (.tmp 6)) none), (.mk (some 8) (.mv (.tmp 1)) (some (7, true))), (.mk (some 9) (.call 267 [(.tmp 8)]) (some (7, true))), (.mk (some 10) (.un .not (.tmp 9)) (some (7, true))), (.mk (some 11) (.pick (.tmp 7) (.tmp 10) (.const (.bool false))) none), (.mk (some 12) (.mv (.tmp 11)) none), (.mk (some 13) (.mv (.tmp 0)) (some (12, false))), (.mk (some 14) (.mv (.tmp 1)) (some (12, false))), (.mk (some 15) (.bin .lss (.tmp 13) (.tmp 14)) (some (12, false))), (.mk (some 16) (.pick (.tmp 12) (.const (.bool true)) (.tmp 15)) none), (.mk (some 4) (.mv (.tmp 16)) none)]) .ret)))
def c_267 : AFunc := (.mk 1 6 [(.tmp 2)] (.seq (.ops [(.mk (some 2) (.mv (.const (.bool false))) none)]) (.seq (.ops [(.mk (some 3) (.mv (.tmp 0)) none), (.mk (some 4) (.mv (.tmp 0)) none), (.mk (some 5) (.bin .neq (.tmp 3) (.tmp 4)) none), (.mk (some 2) (.mv (.tmp 5)) none)]) .ret)))
def c_235 : AFunc := (.mk 1 6 [(.tmp 2)] (.seq (.ops [(.mk (some 2) (.mv (.const (.bool false))) none)]) (.seq (.ops [(.mk (some 3) (.mv (.tmp 0)) none), (.mk (some 4) (.mv (.tmp 0)) none), (.mk (some 5) (.bin .neq (.tmp 3) (.tmp 4)) none), (.mk (some 2) (.mv (.tmp 5)) none)]) .ret)))
def c_202 : AFunc := (.mk 3 32 [(.tmp 6)] (.seq (.ops [(.mk (some 3) (.box 260 (.tmp 0)) none), (.mk (some 4) (.box 175 (.tmp 1)) none), (.mk (some 5) (.box 175 (.tmp 2)) none), (.mk (some 6) (.mv (.const (.bool false))) none)]) (.seq (.draw [(.mk (some 10) (.load none (.tmp 3)) none), (.mk (some 11) (.nilck (.tmp 10)) none), (.mk (some 12) (.faddr 0 (.tmp 11)) none), (.mk (some 13) (.load none (.tmp 12)) none), (.mk (some 14) (.load (some 4) (.tmp 5)) none)] [(.mk (some 15) (.call 149 [(.tmp 13), (.tmp 14)]) none), (.mk (some 7) (.mv (.tmp 15)) none)]) (.seq (.seq (.draw [(.mk (some 16) (.load none (.tmp 3)) none), (.mk (some 17) (.nilck (.tmp 16)) none), (.mk (some 18) (.faddr 0 (.tmp 17)) none), (.mk (some 19) (.load none (.tmp 18)) none), (.mk (some 20) (.load (some 4) (.tmp 4)) none), (.mk (some 23) (.mv (.const (.int .i64 0))) none)] [(.mk (some 21) (.call 149 [(.tmp 19), (.tmp 20)]) none), (.mk (some 22) (.lenL (.tmp 21)) none)]) (.block 0 (.loop (.seq (.ops [(.mk (some 24) (.bin .lss (.tmp 23) (.tmp 22)) none)]) (.seq (.cond (.tmp 24) .skip (.exit 0)) (.seq (.block 1 (.seq (.ops [(.mk (some 25) (.iaddr 4 (.tmp 21) (.tmp 23)) none), (.mk (some 26) (.load (some 4) (.tmp 25)) none), (.mk (some 9) (.alloc [(.int .i64 0), (.str []), (.lst [] .nil), (.lst [] .nil)] 175) none), (.mk none (.store 4 (.tmp 9) (.tmp 26)) none)]) (.seq (.ops [(.mk (some 27) (.mv (.tmp 7)) none), (.mk (some 28) (.mkF (.func 238) [] [(.tmp 3), (.tmp 9)]) none), (.mk (some 29) (.call 212 [(.tmp 27), (.tmp 28)]) none), (.mk (some 30) (.un .not (.tmp 29)) none)]) (.cond (.tmp 30) (.seq (.ops [(.mk (some 6) (.mv (.const (.bool false))) none)]) .ret) .skip)))) (.ops [(.mk (some 31) (.bin .add (.tmp 23) (.const (.int .i64 1))) none), (.mk (some 23) (.mv (.tmp 31)) none)]))))))) (.seq (.ops [(.mk (some 6) (.mv (.const (.bool true))) none)]) .ret)))))
def c_238 : AFunc := (.mk 3 9 [(.tmp 4)] (.seq (.ops [(.mk (some 3) (.box 175 (.tmp 0)) none), (.mk (some 4) (.mv (.const (.bool false))) none)]) (.seq (.ops [(.mk (some 5) (.load none (.tmp 1)) none), (.mk (some 6) (.load (some 4) (.tmp 2)) none), (.mk (some 7) (.load (some 4) (.tmp 3)) none), (.mk (some 8) (.call 239 [(.tmp 5), (.tmp 6), (.tmp 7)]) none), (.mk (some 4) (.mv (.tmp 8)) none)]) .ret)))
def c_239 : AFunc := (.mk 3 109 [(.tmp 6)] (.seq (.ops [(.mk (some 4) (.box 175 (.tmp 1)) none), (.mk (some 5) (.box 175 (.tmp 2)) none), (.mk (some 6) (.mv (.const (.bool false))) none)]) (.seq (.seq (.ops [(.mk (some 10) (.faddr 0 (.tmp 4)) none), (.mk (some 11) (.load none (.tmp 10)) none), (.mk (some 12) (.bin .eql (.tmp 11) (.const (.int .i64 4))) none), (.mk (some 13) (.mv (.tmp 12)) none), (.mk (some 14) (.faddr 0 (.tmp 5)) (some (13, false))), (.mk (some 15) (.load none (.tmp 14)) (some (13, false))), (.mk (some 16) (.bin .eql (.tmp 15) (.const (.int .i64 4))) (some (13, false))), (.mk (some 17) (.pick (.tmp 13) (.const (.bool true)) (.tmp 16)) none)]) (.cond (.tmp 17) (.seq (.ops [(.mk (some 18) (.mv (.tmp 0)) none), (.mk (some 19) (.nilck (.tmp 18)) none), (.mk (some 20) (.faddr 1 (.tmp 19)) none), (.mk (some 21) (.load none (.tmp 20)) none), (.mk (some 22) (.mv (.tmp 21)) none), (.mk (some 23) (.faddr 0 (.tmp 4)) (some (22, false))), (.mk (some 24) (.load none (.tmp 23)) (some (22, false))), (.mk (some 25) (.faddr 0 (.tmp 5)) (some (22, false))), (.mk (some 26) (.load none (.tmp 25)) (some (22, false))), (.mk (some 27) (.bin .eql (.tmp 24) (.tmp 26)) (some (22, false))), (.mk (some 28) (.pick (.tmp 22) (.const (.bool true)) (.tmp 27)) none), (.mk (some 6) (.mv (.tmp 28)) none)]) .ret) .skip)) (.seq (.seq (.ops [(.mk (some 29) (.faddr 0 (.tmp 4)) none), (.mk (some 30) (.load none (.tmp 29)) none), (.mk (some 31) (.faddr 0 (.tmp 5)) none), (.mk (some 32) (.load none (.tmp 31)) none), (.mk (some 33) (.bin .neq (.tmp 30) (.tmp 32)) none)]) (.cond (.tmp 33) (.seq (.ops [(.mk (some 6) (.mv (.const (.bool false))) none)]) .ret) .skip)) (.seq (.seq (.ops [(.mk (some 34) (.faddr 0 (.tmp 4)) none), (.mk (some 35) (.load none (.tmp 34)) none), (.mk (some 36) (.bin .neq (.tmp 35) (.const (.int .i64 5))) none), (.mk (some 37) (.mv (.tmp 36)) none), (.mk (some 38) (.faddr 0 (.tmp 4)) (some (37, true))), (.mk (some 39) (.load none (.tmp 38)) (some (37, true))), (.mk (some 40) (.bin .neq (.tmp 39) (.const (.int .i64 6))) (some (37, true))), (.mk (some 41) (.pick (.tmp 37) (.tmp 40) (.const (.bool false))) none)]) (.cond (.tmp 41) (.seq (.ops [(.mk (some 6) (.mv (.const (.bool true))) none)]) .ret) .skip)) (.seq (.draw [(.mk (some 42) (.load (some 4) (.tmp 4)) none), (.mk (some 43) (.call 150 [(.tmp 42)]) none), (.mk (some 44) (.load (some 4) (.tmp 5)) none), (.mk (some 45) (.call 150 [(.tmp 44)]) none), (.mk (some 46) (.build [(.str []), (.str [])] [(0, (1, (.tmp 43))), (1, (1, (.tmp 45)))]) none), (.mk (some 7) (.alloc [(.str []), (.str [])] 326) none)] [(.mk none (.store 2 (.tmp 7) (.tmp 46)) none)]) (.seq (.seq (.drawt [(.mk (some 47) (.mv (.tmp 0)) none), (.mk (some 48) (.nilck (.tmp 47)) none), (.mk (some 49) (.faddr 2 (.tmp 48)) none)] (.alt (.mk (some 50) (.load none (.tmp 49)) none) [] (.alt (.mk (some 51) (.load (some 2) (.tmp 7)) none) [] (.alt (.mk (some 52) (.call 277 [(.tmp 50), (.tmp 51)]) none) [] .done .stop) .stop) .stop)) (.cond (.tmp 52) (.seq (.ops [(.mk (some 6) (.mv (.const (.bool true))) none)]) .ret) .skip)) (.seq (.ops [(.mk (some 53) (.mv (.tmp 0)) none), (.mk (some 54) (.nilck (.tmp 53)) none), (.mk (some 55) (.faddr 2 (.tmp 54)) none), (.mk (some 56) (.load none (.tmp 55)) none), (.mk (some 57) (.lenL (.tmp 56)) none), (.mk (some 8) (.mv (.tmp 57)) none)]) (.seq (.drawt [(.mk (some 58) (.mv (.tmp 0)) none), (.mk (some 59) (.mv (.tmp 0)) none), (.mk (some 60) (.nilck (.tmp 59)) none), (.mk (some 61) (.faddr 2 (.tmp 60)) none)] (.alt (.mk (some 62) (.load none (.tmp 61)) none) [] (.alt (.mk (some 63) (.load (some 2) (.tmp 7)) none) [] (.alt (.mk (some 64) (.lit 2 32 [] 1 [(0, (.tmp 63))]) none) [] (.alt (.mk (some 65) (.append 2 32 326 (.tmp 62) (.tmp 64)) none) [] (.alt (.mk (some 66) (.nilck (.tmp 58)) none) [] (.alt (.mk (some 67) (.faddr 2 (.tmp 66)) none) [] (.alt (.mk none (.store 1 (.tmp 67) (.tmp 65)) none) [] .done .stop) .stop) .stop) .stop) .stop) .stop) .stop)) (.seq (.ops [(.mk (some 9) (.mv (.const (.bool false))) none)]) (.seq (.seq (.ops [(.mk (some 68) (.faddr 0 (.tmp 4)) none), (.mk (some 69) (.load none (.tmp 68)) none), (.mk (some 70) (.bin .eql (.tmp 69) (.const (.int .i64 5))) none)]) (.cond (.tmp 70) (.ops [(.mk (some 71) (.mv (.tmp 0)) none), (.mk (some 72) (.load (some 4) (.tmp 4)) none), (.mk (some 73) (.load (some 4) (.tmp 5)) none), (.mk (some 74) (.call 278 [(.tmp 71), (.tmp 72), (.tmp 73)]) none), (.mk (some 9) (.mv (.tmp 74)) none)]) (.drawt [(.mk (some 75) (.mv (.tmp 0)) none), (.mk (some 76) (.faddr 3 (.tmp 5)) none), (.mk (some 80) (.faddr 3 (.tmp 4)) none)] (.alt (.mk (some 77) (.load none (.tmp 76)) none) [] (.alt (.mk (some 78) (.iaddr 4 (.tmp 77) (.const (.int .i64 0))) none) [] (.alt (.mk (some 79) (.load (some 4) (.tmp 78)) none) [] (.alt (.mk (some 81) (.load none (.tmp 80)) none) [] (.alt (.mk (some 82) (.iaddr 4 (.tmp 81) (.const (.int .i64 0))) none) [] (.alt (.mk (some 83) (.load (some 4) (.tmp 82)) none) [] (.alt (.mk (some 84) (.call 202 [(.tmp 75), (.tmp 79), (.tmp 83)]) none) [] (.alt (.mk (some 85) (.mv (.tmp 84)) none) [] (.alt (.mk (some 86) (.mv (.tmp 0)) (some (85, true))) [] (.alt (.mk (some 87) (.faddr 3 (.tmp 4)) (some (85, true))) [] (.alt (.mk (some 88) (.load none (.tmp 87)) (some (85, true))) [] (.alt (.mk (some 89) (.iaddr 4 (.tmp 88) (.const (.int .i64 1))) (some (85, true))) [] (.alt (.mk (some 90) (.load (some 4) (.tmp 89)) (some (85, true))) [] (.alt (.mk (some 91) (.faddr 3 (.tmp 5)) (some (85, true))) [] (.alt (.mk (some 92) (.load none (.tmp 91)) (some (85, true))) [] (.alt (.mk (some 93) (.iaddr 4 (.tmp 92) (.const (.int .i64 1))) (some (85, true))) [] (.alt (.mk (some 94) (.load (some 4) (.tmp 93)) (some (85, true))) [] (.alt (.mk (some 95) (.call 202 [(.tmp 86), (.tmp 90), (.tmp 94)]) (some (85, true))) [] (.alt (.mk (some 96) (.pick (.tmp 85) (.tmp 95) (.const (.bool false))) none) [] (.alt (.mk (some 9) (.mv (.tmp 96)) none) [] .done .stop) .stop) .stop) .stop) .stop) .stop) .stop) .stop) .stop) .stop) .stop) .stop) .stop) .stop) .stop) .stop) .stop) .stop) .stop) .stop)))) (.seq (.seq (.ops [(.mk (some 97) (.mv (.tmp 9)) none), (.mk (some 98) (.un .not (.tmp 97)) none)]) (.cond (.tmp 98) (.ops [(.mk (some 99) (.mv (.tmp 0)) none), (.mk (some 100) (.mv (.tmp 0)) none), (.mk (some 101) (.nilck (.tmp 100)) none), (.mk (some 102) (.faddr 2 (.tmp 101)) none), (.mk (some 103) (.load none (.tmp 102)) none), (.mk (some 104) (.mv (.tmp 8)) none), (.mk (some 105) (.slcL 2 (.tmp 103) none (some (.tmp 104))) none), (.mk (some 106) (.nilck (.tmp 99)) none), (.mk (some 107) (.faddr 2 (.tmp 106)) none), (.mk none (.store 1 (.tmp 107) (.tmp 105)) none)]) .skip)) (.seq (.ops [(.mk (some 108) (.mv (.tmp 9)) none), (.mk (some 6) (.mv (.tmp 108)) none)]) .ret)))))))))))))
def c_278 : AFunc := (.mk 3 44 [(.tmp 6)] (.seq (.ops [(.mk (some 4) (.box 175 (.tmp 1)) none), (.mk (some 5) (.box 175 (.tmp 2)) none), (.mk (some 6) (.mv (.const (.bool false))) none)]) (.seq (.seq (.ops [(.mk (some 11) (.faddr 2 (.tmp 5)) none), (.mk (some 12) (.load none (.tmp 11)) none), (.mk (some 13) (.lenL (.tmp 12)) none), (.mk (some 14) (.mv (.const (.int .i64 0))) none)]) (.block 0 (.loop (.seq (.ops [(.mk (some 15) (.bin .lss (.tmp 14) (.tmp 13)) none)]) (.seq (.cond (.tmp 15) .skip (.exit 0)) (.seq (.block 1 (.seq (.ops [(.mk (some 16) (.mv (.tmp 14)) none), (.mk (some 17) (.iaddr 1 (.tmp 12) (.tmp 14)) none), (.mk (some 18) (.load none (.tmp 17)) none), (.mk (some 7) (.mv (.tmp 16)) none), (.mk (some 8) (.mv (.tmp 18)) none)]) (.seq (.ops [(.mk (some 20) (.faddr 2 (.tmp 4)) none), (.mk (some 21) (.load none (.tmp 20)) none), (.mk (some 22) (.mv (.tmp 8)) none), (.mk (some 23) (.call 197 [(.tmp 21), (.tmp 22)]) none), (.mk (some 19) (.mv (.tmp 23)) none), (.mk (some 24) (.ext (.tmp 19) 0) none), (.mk (some 25) (.ext (.tmp 19) 1) none), (.mk (some 9) (.mv (.tmp 24)) none), (.mk (some 10) (.mv (.tmp 25)) none)]) (.seq (.draw [(.mk (some 26) (.mv (.tmp 10)) none), (.mk (some 27) (.un .not (.tmp 26)) none), (.mk (some 28) (.mv (.tmp 27)) none), (.mk (some 29) (.mv (.tmp 0)) (some (28, false))), (.mk (some 30) (.faddr 3 (.tmp 4)) (some (28, false))), (.mk (some 31) (.load none (.tmp 30)) (some (28, false))), (.mk (some 32) (.mv (.tmp 9)) (some (28, false))), (.mk (some 33) (.iaddr 4 (.tmp 31) (.tmp 32)) (some (28, false))), (.mk (some 34) (.load (some 4) (.tmp 33)) (some (28, false))), (.mk (some 35) (.faddr 3 (.tmp 5)) (some (28, false))), (.mk (some 36) (.load none (.tmp 35)) (some (28, false))), (.mk (some 37) (.mv (.tmp 7)) (some (28, false))), (.mk (some 38) (.iaddr 4 (.tmp 36) (.tmp 37)) (some (28, false))), (.mk (some 39) (.load (some 4) (.tmp 38)) (some (28, false)))] [(.mk (some 40) (.call 202 [(.tmp 29), (.tmp 34), (.tmp 39)]) (some (28, false))), (.mk (some 41) (.un .not (.tmp 40)) (some (28, false))), (.mk (some 42) (.pick (.tmp 28) (.const (.bool true)) (.tmp 41)) none)]) (.cond (.tmp 42) (.seq (.ops [(.mk (some 6) (.mv (.const (.bool false))) none)]) .ret) .skip))))) (.ops [(.mk (some 43) (.bin .add (.tmp 14) (.const (.int .i64 1))) none), (.mk (some 14) (.mv (.tmp 43)) none)]))))))) (.seq (.ops [(.mk (some 6) (.mv (.const (.bool true))) none)]) .ret))))
def c_162 : AFunc := (.mk 3 13 [(.tmp 6)] (.seq (.ops [(.mk (some 4) (.box 175 (.tmp 1)) none), (.mk (some 5) (.box 175 (.tmp 2)) none), (.mk (some 6) (.mv (.const (.bool false))) none)]) (.seq (.ops [(.mk (some 7) (.mv (.tmp 0)) none), (.mk (some 8) (.build [.nilptr, (.bool false), (.lst [] .nil)] [(0, (1, (.tmp 7)))]) none), (.mk (some 9) (.box 263 (.tmp 8)) none), (.mk (some 10) (.load (some 4) (.tmp 4)) none), (.mk (some 11) (.load (some 4) (.tmp 5)) none), (.mk (some 12) (.call 202 [(.tmp 9), (.tmp 10), (.tmp 11)]) none), (.mk (some 6) (.mv (.tmp 12)) none)]) .ret)))
def c_163 : AFunc := (.mk 3 13 [(.tmp 6)] (.seq (.ops [(.mk (some 4) (.box 175 (.tmp 1)) none), (.mk (some 5) (.box 175 (.tmp 2)) none), (.mk (some 6) (.mv (.const (.bool false))) none)]) (.seq (.ops [(.mk (some 7) (.mv (.tmp 0)) none), (.mk (some 8) (.build [.nilptr, (.bool false), (.lst [] .nil)] [(0, (1, (.tmp 7))), (1, (1, (.const (.bool true))))]) none), (.mk (some 9) (.box 263 (.tmp 8)) none), (.mk (some 10) (.load (some 4) (.tmp 4)) none), (.mk (some 11) (.load (some 4) (.tmp 5)) none), (.mk (some 12) (.call 202 [(.tmp 9), (.tmp 10), (.tmp 11)]) none), (.mk (some 6) (.mv (.tmp 12)) none)]) .ret)))
def c_169 : AFunc := (.mk 3 17 [(.tmp 6)] (.seq (.ops [(.mk (some 4) (.box 175 (.tmp 1)) none), (.mk (some 5) (.box 175 (.tmp 2)) none), (.mk (some 6) (.mv (.const (.bool false))) none)]) (.seq (.ops [(.mk (some 7) (.mv (.tmp 0)) none), (.mk (some 8) (.load (some 4) (.tmp 4)) none), (.mk (some 9) (.load (some 4) (.tmp 5)) none), (.mk (some 10) (.call 162 [(.tmp 7), (.tmp 8), (.tmp 9)]) none), (.mk (some 11) (.mv (.tmp 10)) none), (.mk (some 12) (.mv (.tmp 0)) (some (11, true))), (.mk (some 13) (.load (some 4) (.tmp 5)) (some (11, true))), (.mk (some 14) (.load (some 4) (.tmp 4)) (some (11, true))), (.mk (some 15) (.call 162 [(.tmp 12), (.tmp 13), (.tmp 14)]) (some (11, true))), (.mk (some 16) (.pick (.tmp 11) (.tmp 15) (.const (.bool false))) none), (.mk (some 6) (.mv (.tmp 16)) none)]) .ret)))
end Go.Ag
/- Library functions whose contracts are told of the machine: made abstract contracts. -/
namespace Go.Ag
open Go
open Go.RowKit (Below)

variable {L : Lnk}

theorem below_drewN (w : World) (n : Nat) : Below w.heap.size w (w.drewN n) := ⟨rfl, rfl, rfl, Nat.le_refl _, fun _ _ => rfl⟩

theorem ext_pure {f : Nat} {args : List AVal} {H : Heap} {x : AVal}
    (hc : ∀ g w vs, St L g w H → RepL L g vs args → ∃ v, Rep L g v x ∧ Calls L.P (L.num f) vs.toArray w fun e w' => e = .returned v ∧ Below w.heap.size w w') :
    ACalls L f args H fun r H' => r = .ret x ∧ H' = H := fun g w vs hs hr => by
  obtain ⟨v, h1, h2⟩ := hc g w vs hs hr
  exact h2.mono fun e w' ⟨h3, h4⟩ => ⟨.ret x, H, g, ⟨rfl, rfl⟩, Ghost.le.refl g, hs.wider h4, v, h3, h1⟩

theorem repL1 {g : Ghost} {vs : List Value} {a : AVal} (h : RepL L g vs [a]) : ∃ v, vs = [v] ∧ Rep L g v a := by
  cases h with | cons v _ _ _ h hs => cases hs; exact ⟨v, rfl, h⟩
theorem repL2 {g : Ghost} {vs : List Value} {a b : AVal} (h : RepL L g vs [a, b]) : ∃ v u, vs = [v, u] ∧ Rep L g v a ∧ Rep L g u b := by
  cases h with | cons v _ _ _ h hs => obtain ⟨u, rfl, h2⟩ := repL1 hs; exact ⟨v, u, rfl, h, h2⟩

end Go.Ag
/- Package sub: what it asks of the library: Contains and Index of pairs on the trail, BinarySearch of names, ContainsFunc. -/
set_option linter.unusedVariables false
namespace Go.Ag
open Go

variable {T : Tab} {L : Lnk}

structure SubFns (T : Tab) : Prop extends AliFns2 T where
  h212 : T.has 212 c_212
  h245 : T.has 245 c_245
  h277 : T.has 277 c_277
  h302 : T.has 302 c_302
  h197 : T.has 197 c_197
  h234 : T.has 234 c_234
  h235 : T.has 235 c_235
  h267 : T.has 267 c_267
  h202 : T.has 202 c_202
  h238 : T.has 238 c_238
  h239 : T.has 239 c_239
  h278 : T.has 278 c_278
  h162 : T.has 162 c_162
  h163 : T.has 163 c_163
  h169 : T.has 169 c_169

theorem isNaN_spec (h267 : T.has 267 c_267) (s : Bytes) : Pure T.L 267 [.str s] (.bool false) := by
  refine Pure.run (low1 (.str _)) (.bool _) (acallsG h267 (by simp [c_267]) ?_)
  conv => whnf
  refine ⟨.bool (!(s == s)), rfl, ?_⟩
  rw [beq_self_eq_true]
  exact Weak.refl _
theorem isNaN2_spec (h235 : T.has 235 c_235) (s : Bytes) : Pure T.L 235 [.str s] (.bool false) := by
  refine Pure.run (low1 (.str _)) (.bool _) (acallsG h235 (by simp [c_235]) ?_)
  conv => whnf
  refine ⟨.bool (!(s == s)), rfl, ?_⟩
  rw [beq_self_eq_true]
  exact Weak.refl _
theorem less_spec (h234 : T.has 234 c_234) (h267 : T.has 267 c_267) (a b : Bytes) : Pure T.L 234 [.str a, .str b] (.bool (decide (a < b))) := by
  refine Pure.run (LowL.at ⟨.str _, .str _, trivial⟩) (.bool _) (acallsG h234 (by simp [c_234]) ?_)
  conv => whnf
  refine (isNaN_spec h267 a).to ?_
  conv => whnf
  rw [← bytesLess_lt]
  exact ret_weak (Weak.refl _)

def pairA (p : Bytes × Bytes) : AVal := .agg [.str p.1, .str p.2]
def pairsA (l : List (Bytes × Bytes)) : List AVal := l.map pairA
structure TrS where
  ver : Nat
  xs : List (Bytes × Bytes)
  len : Nat
def TrS.cur (S : TrS) : List (Bytes × Bytes) := S.xs.take S.len
def TrS.ok (S : TrS) : Prop := S.len ≤ S.xs.length ∧ (S.ver = 0 → S.len = 0)
def tval (S : TrS) : AVal := match S.ver with
  | 0 => .lst [] .nil
  | v + 1 => .vec 4 (v + 1) 2 0 S.len
def tobj (S : TrS) : AObj := match S.ver with
  | 0 => .dead
  | v + 1 => .arr (v + 1) (pairsA S.xs) 326

theorem pairsA_len (l : List (Bytes × Bytes)) : (pairsA l).length = l.length := by simp [pairsA]
theorem low_pair (n : Nat) (p : Bytes × Bytes) : Low n (pairA p) := .agg _ (LowL.at ⟨.str _, .str _, trivial⟩)
theorem low_pairs (n : Nat) (l : List (Bytes × Bytes)) : ∀ x ∈ pairsA l, Low n x := fun x hx => by
  obtain ⟨p, _, rfl⟩ := List.mem_map.1 hx
  exact low_pair n p
theorem sized_pairs (l : List (Bytes × Bytes)) : Sized 2 (pairsA l) := fun x hx => by
  obtain ⟨p, _, rfl⟩ := List.mem_map.1 hx
  exact ⟨rfl, rfl⟩
theorem low_tval (S : TrS) : Low 5 (tval S) := by
  unfold tval
  split
  · exact .lst _ _ trivial low0
  · exact .vec _ _ _ _ _ (by decide)
theorem low_tobj (n : Nat) (S : TrS) : LowO n (tobj S) := by
  unfold tobj
  split
  · trivial
  · exact low_pairs n _

theorem load_pair {H : Heap} {id v t i : Nat} {l : List (Bytes × Bytes)} (h : H[id]? = some (.arr v (pairsA l) t)) (hi : i < l.length) : loadAt H (some 2) (.eptr id v (i * 2)) = some (pairA l[i]) := by
  have h2 : ∀ x ∈ pairsA l, x.cells.length = 2 := fun x hx => (sized_pairs l x hx).1
  have hl := flat_length h2
  rw [pairsA_len] at hl
  simp only [loadAt, cellsAt, h]
  rw [if_pos ⟨trivial, by rw [hl]; omega⟩, flat_drop i h2]
  have : (pairsA l).drop i = pairA l[i] :: (pairsA l).drop (i + 1) := by
    rw [List.drop_eq_getElem_cons (by rw [pairsA_len]; exact hi)]
    simp [pairsA]
  rw [this]
  rfl

def idxI (l : List (Bytes × Bytes)) (p : Bytes × Bytes) (i : Nat) : Int := match l with
  | [] => -1
  | q :: l => if (p.1 == q.1 && p.2 == q.2) = true then i else idxI l p (i + 1)
theorem idxI_ge : ∀ (l : List (Bytes × Bytes)) (p : Bytes × Bytes) (i : Nat), decide (0 ≤ idxI l p i) = l.contains p
  | [], p, i => rfl
  | q :: l, p, i => by
    rw [idxI, List.contains_cons]
    have hpq : (p.1 == q.1 && p.2 == q.2) = (p == q) := rfl
    rw [hpq]
    cases h : (p == q)
    · rw [if_neg (by simp), Bool.false_or]; exact idxI_ge l p (i + 1)
    · rw [if_pos rfl, Bool.true_or]; simp

theorem pairIndex_spec (h302 : T.has 302 c_302) (o0 o1 o2 o3 : AObj) (ho : LowHs 5 [o0, o1, o2, o3]) (S : TrS) (hS : S.ok) (hl : S.len ≤ 2 ^ 40) (p : Bytes × Bytes) :
    CallK T.L 302 [tval S, pairA p] [o0, o1, o2, o3, tobj S] (.int .i64 (idxI S.cur p 0)) [o0, o1, o2, o3, tobj S] := by
  have hlow : ∀ o ∈ [o0, o1, o2, o3, tobj S], LowO 5 o := LowHs.at ⟨ho.1, ho.2.1, ho.2.2.1, ho.2.2.2.1, low_tobj 5 S, trivial⟩
  refine CallK.of 0 rfl (.int _ _) hlow (ACalls.mono (Q := fun r H' => ∃ J, r = .ret (.int .i64 (idxI S.cur p 0)) ∧ H' = [o0, o1, o2, o3, tobj S] ++ J) ?_ fun r H' ⟨J, e1, e2⟩ => ⟨_, _, J, e1, Weak.refl _, e2, rfl, fun i x y h1 h2 => by rw [h1] at h2; cases h2; exact WeakO.refl x⟩)
  obtain ⟨res, hres⟩ : ∃ res, idxI S.cur p 0 = res := ⟨_, rfl⟩
  rw [hres]
  refine acallsG h302 (by simp [c_302]) ?_
  obtain ⟨v, xs, len⟩ := S
  obtain ⟨p1, p2⟩ := p
  obtain ⟨hS1, hS2⟩ := hS
  unfold TrS.cur at hres
  dsimp only at hS1 hS2 hl hres
  cases v with
  | zero =>
    obtain rfl := hS2 rfl
    rw [List.take_zero, idxI] at hres
    subst hres
    conv => whnf
    intro I hI hG
    apply hI
    conv => whnf
    exact ⟨_, rfl, rfl⟩
  | succ v =>
    conv => whnf
    intro I hI hG
    have key : ∀ (d j : Nat) (e : Env), len - j = d → j ≤ len → idxI ((xs.take len).drop j) (p1, p2) j = res → I (setL e [(0, .vec 4 (v + 1) 2 0 len), (3, .ptr 5 0), (7, .int .i64 len), (8, .int .i64 j)]) [o0, o1, o2, o3, .arr (v + 1) (pairsA xs) 326, .cells [.str p1, .str p2] 326] := by
      intro d
      induction d with
      | zero =>
        intro j e hd hj hr
        have hjl : j = len := by omega
        rw [List.drop_of_length_le (by rw [List.length_take]; omega), idxI] at hr
        subst hr
        apply hI
        conv => whnf
        rw [lt_false (by omega)]
        conv => whnf
        exact ⟨_, rfl, rfl⟩
      | succ d ihd =>
        intro j e hd hj hr
        have hjl : j < len := by omega
        have hjx : j < xs.length := by omega
        have hdj : j < (xs.take len).length := by rw [List.length_take]; omega
        rw [List.drop_eq_getElem_cons hdj, idxI, List.getElem_take] at hr
        have hload := fun H h => load_pair (H := H) (id := 4) (v := v + 1) (t := 326) (l := xs) h hjx
        have hnext := fun e => ihd (j + 1) e (by omega) hjl
        generalize xs[j] = q at hr hload
        obtain ⟨q1, q2⟩ := q
        apply hI
        conv => whnf
        rw [lt_true hjl]
        conv => whnf
        refine ⟨⟨Int.natCast_nonneg _, by omega, rfl⟩, ?_⟩
        conv => whnf
        rw [show (0 + ((j : Nat) : Int).toNat) * 2 = j * 2 from by simp]
        refine step_load (hload _ rfl) ?_
        conv => whnf
        dsimp only at hr
        have hgo : ∀ (e3 : Env), envHas e3 [(0, .vec 4 (v + 1) 2 0 len), (3, .ptr 5 0), (7, .int .i64 len), (8, .int .i64 (j + 1 : Nat))] → (p1 == q1 && p2 == q2) = false → I e3 [o0, o1, o2, o3, .arr (v + 1) (pairsA xs) 326, .cells [.str p1, .str p2] 326] := fun e3 he hne => by
          rw [if_neg (by rw [hne]; simp)] at hr
          exact hG.keep [(0, .vec 4 (v + 1) 2 0 len), (3, .ptr 5 0), (7, .int .i64 len), (8, .int .i64 (j + 1 : Nat))] [o0, o1, o2, o3, .arr (v + 1) (pairsA xs) 326, .cells [.str p1, .str p2] 326] (Nat.le_refl 6) rfl he
            ⟨.vec _ _ _ _ _ (by decide : 4 < 6), .ptr _ _ (by decide : 5 < 6), .int _ _, .int _ _, trivial⟩
            ⟨lowO_mono (by decide : 5 ≤ 6) ho.1, lowO_mono (by decide : 5 ≤ 6) ho.2.1, lowO_mono (by decide : 5 ≤ 6) ho.2.2.1, lowO_mono (by decide : 5 ≤ 6) ho.2.2.2.1, low_pairs 6 _, lowC ⟨.str _, .str _, trivial⟩, trivial⟩ (hnext _ hr)
        have hj1 : j + 1 < 9223372036854775808 := by omega
        cases hq1 : (p1 == q1)
        · conv => whnf
          exact hgo _ ⟨rfl, rfl, rfl, add1 hj1, trivial⟩ (by rw [hq1]; rfl)
        · cases hq2 : (p2 == q2)
          · conv => whnf
            exact hgo _ ⟨rfl, rfl, rfl, add1 hj1, trivial⟩ (by rw [hq1, hq2]; rfl)
          · rw [if_pos (by rw [hq1, hq2]; rfl)] at hr
            subst hr
            conv => whnf
            exact ⟨_, rfl, rfl⟩
    exact inv_of [(0, .vec 4 (v + 1) 2 0 len), (3, .ptr 5 0), (7, .int .i64 len), (8, .int .i64 0)] ⟨rfl, rfl, rfl, rfl, trivial⟩ (key len 0 _ rfl (Nat.zero_le _) hres)

theorem pairContains_spec (h277 : T.has 277 c_277) (h302 : T.has 302 c_302) (o0 o1 o2 o3 : AObj) (ho : LowHs 5 [o0, o1, o2, o3]) (S : TrS) (hS : S.ok) (hl : S.len ≤ 2 ^ 40) (p : Bytes × Bytes) :
    CallK T.L 277 [tval S, pairA p] [o0, o1, o2, o3, tobj S] (.bool (S.cur.contains p)) [o0, o1, o2, o3, tobj S] := by
  have hlow : ∀ o ∈ [o0, o1, o2, o3, tobj S], LowO 5 o := LowHs.at ⟨ho.1, ho.2.1, ho.2.2.1, ho.2.2.2.1, low_tobj 5 S, trivial⟩
  have hi := pairIndex_spec h302 o0 o1 o2 o3 ho S hS hl p
  have hlv : ∀ x ∈ [tval S, pairA p], Low 5 x := LowL.at ⟨low_tval S, low_pair 5 p, trivial⟩
  rw [← idxI_ge S.cur p 0]
  generalize idxI S.cur p 0 = res at hi ⊢
  refine CallK.of 0 rfl (.bool _) hlow (ACalls.mono (Q := fun r H' => ∃ J, r = .ret (.bool (decide (0 ≤ res))) ∧ H' = [o0, o1, o2, o3, tobj S] ++ J) ?_ fun r H' ⟨J, e1, e2⟩ => ⟨_, _, J, e1, Weak.refl _, e2, rfl, fun i x y h1 h2 => by rw [h1] at h2; cases h2; exact WeakO.refl x⟩)
  refine acallsG h277 (by simp [c_277]) ?_
  generalize htv : tval S = tv at hi hlv ⊢
  have htvf : (∃ v len, tv = .vec 4 v 2 0 len) ∨ tv = .lst [] .nil := by
    subst htv
    unfold tval
    split
    · exact .inr rfl
    · exact .inl ⟨_, _, rfl⟩
  obtain ⟨p1, p2⟩ := p
  rcases htvf with ⟨v, len, rfl⟩ | rfl
  all_goals
    conv => whnf
    refine hi.to rfl hlv hlow (.int _ _) hlow [.cells [.str p1, .str p2] 326] rfl ?_
    conv => whnf
    exact ⟨_, rfl, rfl⟩

end Go.Ag
/- Package sub: BinarySearch of names. -/
set_option linter.unusedVariables false
namespace Go.Ag
open Go

variable {T : Tab} {L : Lnk}

def lowI (ns : List Bytes) (nm : Bytes) : Nat := (ns.takeWhile fun s => decide (s < nm)).length
theorem lowI_le (ns : List Bytes) (nm : Bytes) : lowI ns nm ≤ ns.length := (List.takeWhile_sublist _).length_le
theorem lowI_lt {ns : List Bytes} {nm : Bytes} (hs : ns.Pairwise (· < ·)) {k : Nat} (hk : k < ns.length) : ns[k] < nm ↔ k < lowI ns nm := by
  induction ns generalizing k with
  | nil => cases hk
  | cons s ns ih =>
    obtain ⟨h1, h2⟩ := List.pairwise_cons.1 hs
    unfold lowI
    rw [List.takeWhile_cons]
    by_cases hlt : s < nm
    · simp only [hlt, decide_true, if_true, List.length_cons]
      cases k with
      | zero => simp [hlt]
      | succ k =>
        have := ih h2 (k := k) (by simpa using hk)
        unfold lowI at this
        simp only [List.getElem_cons_succ]
        rw [this]; omega
    · simp only [hlt, decide_false, Bool.false_eq_true, if_false, List.length_nil]
      refine ⟨fun h => ?_, fun h => by omega⟩
      cases k with
      | zero => exact absurd h hlt
      | succ k =>
        simp only [List.getElem_cons_succ] at h
        exact absurd (List.lt_trans (h1 _ (List.getElem_mem _)) h) hlt
theorem lowI_has {ns : List Bytes} {nm : Bytes} (hs : ns.Pairwise (· < ·)) : ns[lowI ns nm]? = some nm ↔ nm ∈ ns := by
  refine ⟨fun h => List.mem_of_getElem? h, fun h => ?_⟩
  obtain ⟨k, hk, rfl⟩ := List.getElem_of_mem h
  have hle : lowI ns ns[k] ≤ k := by
    rcases Nat.lt_or_ge k (lowI ns ns[k]) with h' | h'
    · exact absurd ((lowI_lt hs hk).2 h') (List.lt_irrefl _)
    · exact h'
  have hge : k ≤ lowI ns ns[k] := by
    rcases Nat.lt_or_ge (lowI ns ns[k]) k with h' | h'
    · have hlt : lowI ns ns[k] < ns.length := by omega
      have := List.pairwise_iff_getElem.1 hs _ _ hlt hk h'
      have := (lowI_lt hs hlt).1 this
      omega
    · exact h'
  have : lowI ns ns[k] = k := by omega
  rw [this, List.getElem?_eq_getElem hk]

theorem mid_eq {i j : Nat} (h : i + j ≤ 2 ^ 50) : IntKind.i64.wrap ((IntKind.u64.wrap (IntKind.i64.wrap ((i : Int) + (j : Int)))).fdiv (2 ^ min (Int.toNat 1) IntKind.u64.bits)) = ((i + j) / 2 : Nat) := by
  have e1 : IntKind.i64.wrap ((i : Int) + (j : Int)) = ((i + j : Nat) : Int) := by rw [IntWalk.i64_in _ (by omega)]; omega
  rw [e1]
  have e2 : IntKind.u64.wrap ((i + j : Nat) : Int) = ((i + j : Nat) : Int) := by
    simp only [IntKind.wrap, IntKind.signed, IntKind.bits]
    simp
    omega
  rw [e2]
  have e3 : (((i + j : Nat) : Int)).fdiv (2 ^ min (Int.toNat 1) IntKind.u64.bits) = (((i + j) / 2 : Nat) : Int) := by
    rw [show (2 : Int) ^ min (Int.toNat 1) IntKind.u64.bits = ((2 : Nat) : Int) from rfl, Int.ofNat_fdiv]
  rw [e3]
  exact IntWalk.i64_in _ (by omega)

theorem bsearch_spec (F : SubFns T) (ns : List Bytes) (nm : Bytes) (hs : ns.Pairwise (· < ·)) (hl : ns.length ≤ 2 ^ 40) :
    Pure T.L 197 [.lst (strA ns) .none, .str nm] (.tup [.int .i64 (lowI ns nm : Nat), .bool (decide (nm ∈ ns))]) := by
  refine Pure.run (LowL.at ⟨low_strs' _ _ _ trivial, .str _, trivial⟩) (.tup _ (LowL.at ⟨.int _ _, .bool _, trivial⟩)) (acallsG F.h197 (by simp [c_197]) ?_)
  have hless := less_spec F.h234 F.h267
  have hnan := isNaN2_spec F.h235
  have hlo := lowI_le ns nm
  have hlt := fun k hk => lowI_lt (nm := nm) hs (k := k) hk
  have hhas := lowI_has (nm := nm) hs
  generalize lowI ns nm = lo at hlo hlt hhas ⊢
  conv => whnf
  intro I hI hG
  have key : ∀ (d i j : Nat) (e : Env), j - i = d → i ≤ lo → lo ≤ j → j ≤ ns.length → I (setL e [(0, .lst (strA ns) .none), (1, .str nm), (6, .int .i64 ns.length), (7, .int .i64 i), (8, .int .i64 j)]) [] := by
    intro d
    induction d using Nat.strongRecOn with
    | ind d ih =>
      intro i j e hd hi hj hjn
      apply hI
      conv => whnf
      by_cases hij : i < j
      · have hh : (i + j) / 2 < ns.length := by omega
        rw [lt_true hij]
        conv => whnf
        rw [mid_eq (by omega)]
        have hm1 : i ≤ (i + j) / 2 := by omega
        have hm2 : (i + j) / 2 < j := by omega
        generalize (i + j) / 2 = m at hh hm1 hm2 ⊢
        have hget : (strA ns)[((m : Nat) : Int).toNat]? = some (.str ns[m]) := by
          rw [Int.toNat_natCast]; simp [strA, List.getElem?_map, List.getElem?_eq_getElem hh]
        have hq := hlt m hh
        generalize ns[m] = s at hget hq
        refine step_elem (Int.natCast_nonneg _) hget rfl ?_
        conv => whnf
        refine (hless s nm).to ?_
        conv => whnf
        have hm3 : m + 1 < 9223372036854775808 := by omega
        by_cases hb : s < nm
        · rw [decide_eq_true hb]
          have := hq.1 hb
          conv => whnf
          exact hG.keep [(0, .lst (strA ns) .none), (1, .str nm), (6, .int .i64 ns.length), (7, .int .i64 (m + 1 : Nat)), (8, .int .i64 j)] [] (Nat.le_refl 0) rfl ⟨rfl, rfl, rfl, add1 hm3, rfl, trivial⟩
            ⟨low_strs' _ _ _ trivial, .str _, .int _ _, .int _ _, .int _ _, trivial⟩ trivial (ih (j - (m + 1)) (by omega) (m + 1) j _ rfl (by omega) hj hjn)
        · rw [decide_eq_false hb]
          have : lo ≤ m := by
            rcases Nat.lt_or_ge m lo with h' | h'
            · exact absurd (hq.2 h') hb
            · exact h'
          conv => whnf
          exact hG.keep [(0, .lst (strA ns) .none), (1, .str nm), (6, .int .i64 ns.length), (7, .int .i64 i), (8, .int .i64 m)] [] (Nat.le_refl 0) rfl ⟨rfl, rfl, rfl, rfl, rfl, trivial⟩
            ⟨low_strs' _ _ _ trivial, .str _, .int _ _, .int _ _, .int _ _, trivial⟩ trivial (ih (m - i) (by omega) i m _ rfl hi (by omega) (by omega))
      · have hil : i = lo := by omega
        subst hil
        rw [lt_false (by omega)]
        conv => whnf
        by_cases hn : i < ns.length
        · rw [lt_true hn]
          have hget : (strA ns)[((i : Nat) : Int).toNat]? = some (.str ns[i]) := by
            rw [Int.toNat_natCast]; simp [strA, List.getElem?_map, List.getElem?_eq_getElem hn]
          rw [List.getElem?_eq_getElem hn, Option.some_inj] at hhas
          generalize ns[i] = s at hget hhas
          conv => whnf
          refine step_elem (Int.natCast_nonneg _) hget rfl ?_
          conv => whnf
          cases hb : (s == nm)
          · conv => whnf
            refine step_elem (Int.natCast_nonneg _) hget rfl ?_
            conv => whnf
            refine (hnan s).to ?_
            conv => whnf
            have : decide (nm ∈ ns) = false := decide_eq_false fun h => by rw [hhas.2 h] at hb; simp at hb
            rw [this]
            exact ret_weak (Weak.refl _)
          · conv => whnf
            have : decide (nm ∈ ns) = true := decide_eq_true (hhas.1 (by simpa using hb))
            rw [this]
            exact ret_weak (Weak.refl _)
        · rw [lt_false (by omega)]
          conv => whnf
          have : decide (nm ∈ ns) = false := decide_eq_false fun h => by
            have := hhas.2 h
            rw [List.getElem?_eq_none (by omega)] at this
            cases this
          rw [this]
          exact ret_weak (Weak.refl _)
  exact inv_of [(0, .lst (strA ns) .none), (1, .str nm), (6, .int .i64 ns.length), (7, .int .i64 0), (8, .int .i64 ns.length)] ⟨rfl, rfl, by show AVal.int .i64 ((strA ns).length : Nat) = _; rw [strA_len], rfl, by show AVal.int .i64 ((strA ns).length : Nat) = _; rw [strA_len], trivial⟩ (key _ 0 ns.length _ rfl (Nat.zero_le _) hlo (Nat.le_refl _))

end Go.Ag
/- Package sub: ContainsFunc with a judge in hand. -/
set_option linter.unusedVariables false
namespace Go.Ag
open Go

variable {T : Tab} {L : Lnk}

def anyO {σ α : Type} (f : σ → α → Option (Bool × σ)) : σ → List α → Option (Bool × σ)
  | s, [] => some (false, s)
  | s, x :: l => match f s x with
    | none => none
    | some (true, s') => some (true, s')
    | some (false, s') => anyO f s' l
def anyI {σ α : Type} (f : σ → α → Option (Bool × σ)) : Nat → σ → List α → Option (Int × σ)
  | _, s, [] => some (-1, s)
  | j, s, x :: l => match f s x with
    | none => none
    | some (true, s') => some ((j : Int), s')
    | some (false, s') => anyI f (j + 1) s' l
theorem anyI_of {σ α : Type} {f : σ → α → Option (Bool × σ)} : ∀ (l : List α) (j : Nat) (s : σ) (b : Bool) (s' : σ), anyO f s l = some (b, s') → ∃ i, anyI f j s l = some (i, s') ∧ decide (0 ≤ i) = b
  | [], j, s, b, s', h => by cases h; exact ⟨-1, rfl, rfl⟩
  | x :: l, j, s, b, s', h => by
    rw [anyO] at h
    rw [anyI]
    cases hq : f s x with
    | none => rw [hq] at h; cases h
    | some q =>
      obtain ⟨c, s2⟩ := q
      rw [hq] at h
      cases c
      · exact anyI_of l (j + 1) s2 b s' h
      · cases h; exact ⟨_, rfl, by simp⟩

variable {σ : Type}
structure AskOK (T : Tab) (g : Nat) (BB : σ → Heap) (p : σ → Nat → AObj) (f : σ → TA → Option (Bool × σ)) : Prop where
  hB : ∀ s, BB s = [p s 0, p s 1, p s 2, p s 3, p s 4, p s 5, p s 6, p s 7, p s 8]
  low : ∀ s, ∀ o ∈ BB s, LowO 9 o
  call : ∀ s y b s', f s y = some (b, s') → CallK T.L g [y.av, .ptr 5 0, .ptr 8 0] (BB s) (.bool b) (BB s')

theorem AskOK.lows {g : Nat} {BB : σ → Heap} {p : σ → Nat → AObj} {f : σ → TA → Option (Bool × σ)} (A : AskOK T g BB p f) (s : σ) (n : Nat) (hn : 9 ≤ n) : ∀ i, i < 9 → LowO n (p s i) := fun i hi => by
  refine lowO_mono hn (A.low s _ ?_)
  rw [A.hB]
  match i, hi with
  | 0, _ => simp
  | 1, _ => simp
  | 2, _ => simp
  | 3, _ => simp
  | 4, _ => simp
  | 5, _ => simp
  | 6, _ => simp
  | 7, _ => simp
  | 8, _ => simp
  | i + 9, h => omega

theorem indexFunc_spec (h245 : T.has 245 c_245) {g : Nat} {BB : σ → Heap} {p : σ → Nat → AObj} {f : σ → TA → Option (Bool × σ)} (A : AskOK T g BB p f) (l : List TA) (hl : l.length ≤ 2 ^ 40) (s : σ) (i : Int) (s' : σ) (h : anyI f 0 s l = some (i, s')) :
    CallK T.L 245 [.lst (TA.avs l) .none, .fn (.func g) [] [.ptr 5 0, .ptr 8 0]] (BB s) (.int .i64 i) (BB s') := by
  have hB := A.hB
  have hlen : ∀ s, (BB s).length = 9 := fun s => by rw [hB]; rfl
  refine CallK.of 0 (by rw [hlen, hlen]) (.int _ _) (by rw [hlen]; exact A.low s') (ACalls.mono (Q := fun r H' => ∃ J, r = .ret (.int .i64 i) ∧ H' = BB s' ++ J) ?_ fun r H' ⟨J, e1, e2⟩ => ⟨_, _, J, e1, Weak.refl _, e2, rfl, fun i x y h1 h2 => by rw [h1] at h2; cases h2; exact WeakO.refl x⟩)
  rw [List.replicate_zero, List.append_nil]
  obtain ⟨fin, hfin⟩ : ∃ fin, BB s' = fin := ⟨_, rfl⟩
  rw [hfin]
  refine acallsG h245 (by simp [c_245]) ?_
  rw [hB]
  conv => whnf
  intro I hI hG
  have key : ∀ (d j : Nat) (s1 : σ) (e : Env), l.length - j = d → j ≤ l.length → anyI f j s1 (l.drop j) = some (i, s') →
      I (setL e [(0, .lst (TA.avs l) .none), (1, .fn (.func g) [] [.ptr 5 0, .ptr 8 0]), (7, .int .i64 l.length), (8, .int .i64 j)]) (BB s1) := by
    intro d
    induction d with
    | zero =>
      intro j s1 e hd hj hf
      have hjl : j = l.length := by omega
      rw [hjl, List.drop_length, anyI] at hf
      cases hf
      subst hfin
      apply hI
      rw [hB]
      conv => whnf
      rw [lt_false (by omega)]
      conv => whnf
      exact ⟨_, rfl, (List.append_nil _).symm⟩
    | succ d ihd =>
      intro j s1 e hd hj hf
      have hjl : j < l.length := by omega
      rw [List.drop_eq_getElem_cons hjl, anyI] at hf
      have hget := tas_at' hjl
      have hnext := fun s2 e => ihd (j + 1) s2 e (by omega) hjl
      generalize l[j] = v at hget hf
      cases hq : f s1 v with
      | none => rw [hq] at hf; cases hf
      | some q =>
        obtain ⟨c, s2⟩ := q
        rw [hq] at hf
        have hc := A.call s1 v c s2 hq
        have hlv : ∀ x ∈ [v.av, .ptr 5 0, .ptr 8 0], Low (BB s1).length x := by rw [hlen]; exact LowL.at ⟨low_ta _ _, .ptr _ _ (by decide), .ptr _ _ (by decide), trivial⟩
        apply hI
        rw [hB]
        obtain ⟨vk, vn, vs, vl⟩ := v
        conv => whnf
        rw [lt_true hjl]
        conv => whnf
        refine step_elem (Int.natCast_nonneg _) hget rfl ?_
        conv => whnf
        refine hc.to (by rw [hlen, hlen]) hlv (by rw [hlen]; exact A.low _) (.bool _) (by rw [hlen]; exact A.low _) [] (by rw [hB]; rfl) ?_
        cases c
        · have hf : anyI f (j + 1) s2 (l.drop (j + 1)) = some (i, s') := hf
          rw [hB]
          conv => whnf
          refine hG.keep [(0, .lst (TA.avs l) .none), (1, .fn (.func g) [] [.ptr 5 0, .ptr 8 0]), (7, .int .i64 l.length), (8, .int .i64 (j + 1 : Nat))] (BB s2) (by rw [hB]; exact Nat.le_refl 9) (by rw [hB]; rfl) ⟨rfl, rfl, rfl, add1 (by omega), trivial⟩
            (by rw [hlen]; exact ⟨.lst _ _ trivial (low_tas _ l), .fn _ _ _ low0 (LowL.at ⟨.ptr _ _ (by decide), .ptr _ _ (by decide), trivial⟩), .int _ _, .int _ _, trivial⟩)
            (by rw [hlen, hB]; have := A.lows s2 9 (Nat.le_refl 9); exact ⟨this 0 (by decide), this 1 (by decide), this 2 (by decide), this 3 (by decide), this 4 (by decide), this 5 (by decide), this 6 (by decide), this 7 (by decide), this 8 (by decide), trivial⟩) (hnext _ _ hf)
        · cases hf
          rw [hfin]
          conv => whnf
          exact ⟨_, rfl, rfl⟩
  have h0 := key l.length 0 s
  rw [hB] at h0
  exact inv_of [(0, .lst (TA.avs l) .none), (1, .fn (.func g) [] [.ptr 5 0, .ptr 8 0]), (7, .int .i64 l.length), (8, .int .i64 0)] ⟨rfl, rfl, by show AVal.int .i64 ((TA.avs l).length : Nat) = _; rw [tas_len], rfl, trivial⟩ (h0 _ rfl (Nat.zero_le _) h)

theorem containsFunc_spec (h212 : T.has 212 c_212) (h245 : T.has 245 c_245) {g : Nat} {BB : σ → Heap} {p : σ → Nat → AObj} {f : σ → TA → Option (Bool × σ)} (A : AskOK T g BB p f) (l : List TA) (hl : l.length ≤ 2 ^ 40) (s : σ) (b : Bool) (s' : σ) (h : anyO f s l = some (b, s')) :
    CallK T.L 212 [.lst (TA.avs l) .none, .fn (.func g) [] [.ptr 5 0, .ptr 8 0]] (BB s) (.bool b) (BB s') := by
  have hB := A.hB
  have hlen : ∀ s, (BB s).length = 9 := fun s => by rw [hB]; rfl
  obtain ⟨i, hi, rfl⟩ := anyI_of l 0 s b s' h
  have hx := indexFunc_spec h245 A l hl s i s' hi
  have hargs : ∀ n, 9 ≤ n → ∀ x ∈ [AVal.lst (TA.avs l) .none, .fn (.func g) [] [.ptr 5 0, .ptr 8 0]], Low n x := fun n hn => LowL.at ⟨.lst _ _ trivial (low_tas _ l), .fn _ _ _ low0 (LowL.at ⟨.ptr _ _ (by omega), .ptr _ _ (by omega), trivial⟩), trivial⟩
  refine CallK.of 0 (by rw [hlen, hlen]) (.bool _) (by rw [hlen]; exact A.low s') (ACalls.mono (Q := fun r H' => ∃ J, r = .ret (.bool (decide (0 ≤ i))) ∧ H' = BB s' ++ J) ?_ fun r H' ⟨J, e1, e2⟩ => ⟨_, _, J, e1, Weak.refl _, e2, rfl, fun i x y h1 h2 => by rw [h1] at h2; cases h2; exact WeakO.refl x⟩)
  rw [List.replicate_zero, List.append_nil]
  refine acallsG h212 (by simp [c_212]) ?_
  conv => whnf
  refine hx.to (by rw [hlen, hlen]) (by rw [hlen]; exact hargs 9 (Nat.le_refl 9)) (by rw [hlen]; exact A.low _) (.int _ _) (by rw [hlen]; exact A.low _) [] (List.append_nil _).symm ?_
  conv => whnf
  exact ⟨_, rfl, rfl⟩

end Go.Ag
/- Package sub: the judge. -/
set_option linter.unusedVariables false
namespace Go.Ag
open Go

variable {T : Tab} {L : Lnk}

def TrS.push (S : TrS) (p : Bytes × Bytes) : TrS := match S.ver with
  | 0 => ⟨1, [p], 1⟩
  | v + 1 => ⟨v + 2, S.xs.take S.len ++ [p], S.len + 1⟩
def TrS.cut (S : TrS) (m : Nat) : TrS := ⟨S.ver, S.xs, m⟩

theorem TrS.push_ok {S : TrS} (h : S.ok) (p : Bytes × Bytes) : (S.push p).ok := by
  unfold TrS.push
  have := h.1
  split
  · exact ⟨Nat.le_refl 1, fun h => (by cases h)⟩
  · refine ⟨?_, fun h => (by cases h)⟩
    simp only [List.length_append, List.length_take, List.length_singleton]; omega
theorem TrS.cut_ok {S : TrS} (h : S.ok) {m : Nat} (hm : m ≤ S.len) : (S.cut m).ok := ⟨Nat.le_trans hm h.1, fun e => by have := h.2 e; show m = 0; omega⟩

section
variable (hd : TA → List TA) (tx : TA → Bytes) (loose : Bool)
def recG (rel : TrS → TA → TA → Option (Bool × TrS)) (S : TrS) (x y : TA) : Option (Bool × TrS) :=
  foldO (fun S p => if p.1 ∈ x.names then rel S (x.l[lowI x.names p.1]?.getD default) p.2 else some (false, S)) S (y.names.zip y.l)
def funG (rel : TrS → TA → TA → Option (Bool × TrS)) (S : TrS) (x y : TA) : Option (Bool × TrS) := match y.l, x.l with
  | [y0, y1], [x0, x1] => match rel S y0 x0 with
    | none => none
    | some (false, S') => some (false, S')
    | some (true, S') => rel S' x1 y1
  | _, _ => none
def undG (rel : TrS → TA → TA → Option (Bool × TrS)) (S : TrS) (x y : TA) : Option (Bool × TrS) :=
  if x.kind = 4 ∨ y.kind = 4 then some (loose || x.kind == y.kind, S)
  else if x.kind ≠ y.kind then some (false, S)
  else if x.kind ≠ 5 ∧ x.kind ≠ 6 then some (true, S)
  else if 2 ^ 40 ≤ S.len then none
  else if S.cur.contains (tx x, tx y) = true then some (true, S)
  else match (if x.kind = 5 then recG rel (S.push (tx x, tx y)) x y else funG rel (S.push (tx x, tx y)) x y) with
    | none => none
    | some (true, S') => some (true, S')
    | some (false, S') => if S.len ≤ S'.len then some (false, S'.cut S.len) else none
def relF : Nat → TrS → TA → TA → Option (Bool × TrS)
  | 0, _, _, _ => none
  | n + 1, S, a, b => foldO (fun S x => anyO (fun S y => undG tx loose (relF n) S x y) S (hd b)) S (hd a)
end

theorem foldO_inv {σ α : Type} {st : σ → α → Option (Bool × σ)} {P : σ → Prop} : ∀ (l : List α), (∀ s x b s', x ∈ l → P s → st s x = some (b, s') → P s') → ∀ s b s', P s → foldO st s l = some (b, s') → P s'
  | [], _, s, b, s', h, e => by cases e; exact h
  | x :: l, hs, s, b, s', h, e => by
    rw [foldO] at e
    cases hq : st s x with
    | none => rw [hq] at e; cases e
    | some q =>
      obtain ⟨c, s2⟩ := q
      rw [hq] at e
      have h2 := hs s x c s2 (by simp) h hq
      cases c
      · cases e; exact h2
      · exact foldO_inv l (fun s x b s' hx => hs s x b s' (by simp [hx])) s2 b s' h2 e
theorem anyO_inv {σ α : Type} {st : σ → α → Option (Bool × σ)} {P : σ → Prop} : ∀ (l : List α), (∀ s x b s', x ∈ l → P s → st s x = some (b, s') → P s') → ∀ s b s', P s → anyO st s l = some (b, s') → P s'
  | [], _, s, b, s', h, e => by cases e; exact h
  | x :: l, hs, s, b, s', h, e => by
    rw [anyO] at e
    cases hq : st s x with
    | none => rw [hq] at e; cases e
    | some q =>
      obtain ⟨c, s2⟩ := q
      rw [hq] at e
      have h2 := hs s x c s2 (by simp) h hq
      cases c
      · exact anyO_inv l (fun s x b s' hx => hs s x b s' (by simp [hx])) s2 b s' h2 e
      · cases e; exact h2

theorem undG_ok {tx : TA → Bytes} {loose : Bool} {rel : TrS → TA → TA → Option (Bool × TrS)} (hr : ∀ S a b r S', S.ok → rel S a b = some (r, S') → S'.ok) : ∀ S x y r S', S.ok → undG tx loose rel S x y = some (r, S') → S'.ok := by
  intro S x y r S' hS h
  unfold undG at h
  split at h
  · cases h; exact hS
  split at h
  · cases h; exact hS
  split at h
  · cases h; exact hS
  split at h
  · cases h
  split at h
  · cases h; exact hS
  have hp := TrS.push_ok hS (tx x, tx y)
  have hin : ∀ r S', (if x.kind = 5 then recG rel (S.push (tx x, tx y)) x y else funG rel (S.push (tx x, tx y)) x y) = some (r, S') → S'.ok := by
    intro r S' h
    split at h
    · exact foldO_inv (P := TrS.ok) _ (fun s p b s' _ hs he => by
        split at he
        · exact hr _ _ _ _ _ hs he
        · cases he; exact hs) _ _ _ hp h
    · unfold funG at h
      split at h
      · split at h
        · cases h
        · rename_i hq
          cases h
          exact hr _ _ _ _ _ hp hq
        · rename_i hq
          exact hr _ _ _ _ _ (hr _ _ _ _ _ hp hq) h
      · cases h
  split at h
  · cases h
  · rename_i hq
    cases h
    exact hin _ _ hq
  · rename_i hq
    split at h
    · cases h
      rename_i hle
      exact TrS.cut_ok (hin _ _ hq) hle
    · cases h
theorem relF_ok {hd : TA → List TA} {tx : TA → Bytes} {loose : Bool} : ∀ (n : Nat) (S : TrS) (a b : TA) (r : Bool) (S' : TrS), S.ok → relF hd tx loose n S a b = some (r, S') → S'.ok
  | 0, _, _, _, _, _, _, h => by rw [relF] at h; cases h
  | n + 1, S, a, b, r, S', hS, h => by
    rw [relF] at h
    exact foldO_inv (P := TrS.ok) _ (fun s x b' s' _ hs he => anyO_inv (P := TrS.ok) _ (fun s2 y b2 s2' _ hs2 he2 => undG_ok (relF_ok n) s2 x y b2 s2' hs2 he2) _ _ _ hs he) _ _ _ hS h

def jheap (e : EnvA) (loose : Bool) (S : TrS) : Heap := eheap e ++ [.cells [.ptr 2 0, .bool loose, tval S] 263, tobj S]
theorem low_jheap (e : EnvA) (loose : Bool) (S : TrS) : ∀ o ∈ jheap e loose S, LowO 5 o :=
  LowHs.at ⟨entsT_low 5 _ _, entsE_low 5 _ _, lowC ⟨.map _ (by decide : 0 < 5), .map _ (by decide : 1 < 5), trivial⟩, lowC ⟨.ptr _ _ (by decide : 2 < 5), .bool _, low_tval S, trivial⟩, low_tobj 5 S, trivial⟩

structure JW (T : Tab) (e : EnvA) where
  G : TA → Prop
  hd : TA → List TA
  tx : TA → Bytes
  heads : ∀ t, G t → EK T.L 149 [t.av] e (.lst (TA.avs (hd t)) .none)
  hlen : ∀ t, G t → (hd t).length ≤ 2 ^ 40
  text : ∀ t, G t → ∀ h ∈ hd t, Pure T.L 150 [h.av] (.str (tx h))
  sub : ∀ t, G t → ∀ h ∈ hd t, ∀ x ∈ h.l, G x
  fn : ∀ t, G t → ∀ h ∈ hd t, h.kind = 6 → ∃ a b, h.l = [a, b]
  rcd : ∀ t, G t → ∀ h ∈ hd t, h.kind = 5 → h.names.length = h.l.length ∧ h.names.Pairwise (· < ·) ∧ h.names.length ≤ 2 ^ 40

def RelOK (T : Tab) (e : EnvA) (loose : Bool) (G : TA → Prop) (rel : TrS → TA → TA → Option (Bool × TrS)) : Prop :=
  ∀ S a b r S', S.ok → G a → G b → rel S a b = some (r, S') → S'.ok ∧ CallK T.L 202 [.ptr 3 0, a.av, b.av] (jheap e loose S) (.bool r) (jheap e loose S')

theorem low_rel (a b : TA) : ∀ x ∈ [AVal.ptr 3 0, a.av, b.av], Low 5 x := LowL.at ⟨.ptr _ _ (by decide), low_ta _ _, low_ta _ _, trivial⟩
theorem record_spec2 (F : SubFns T) {e : EnvA} {loose : Bool} {G : TA → Prop} {rel : TrS → TA → TA → Option (Bool × TrS)} (hR : RelOK T e loose G rel) (x y : TA) (hx : ∀ t ∈ x.l, G t) (hy : ∀ t ∈ y.l, G t)
    (hxn : x.names.length = x.l.length ∧ x.names.Pairwise (· < ·) ∧ x.names.length ≤ 2 ^ 40) (hyn : y.names.length = y.l.length ∧ y.names.length ≤ 2 ^ 40) (S : TrS) (r : Bool) (S' : TrS) (hS : S.ok) (h : recG rel S x y = some (r, S')) :
    CallK T.L 278 [.ptr 3 0, x.av, y.av] (jheap e loose S) (.bool r) (jheap e loose S') := by
  refine CallK.of 0 rfl (.bool _) (low_jheap e loose S') (ACalls.mono (Q := fun r' H' => ∃ J, r' = .ret (.bool r) ∧ H' = jheap e loose S' ++ J) ?_ fun r H' ⟨J, e1, e2⟩ => ⟨_, _, J, e1, Weak.refl _, e2, rfl, fun i x y h1 h2 => by rw [h1] at h2; cases h2; exact WeakO.refl x⟩)
  have hxat : ∀ nm, nm ∈ x.names → ∃ t, x.l[lowI x.names nm]? = some t ∧ x.l[lowI x.names nm]?.getD default = t ∧ G t := fun nm hm => by
    have h1 := (lowI_has hxn.2.1).2 hm
    have h2 := (List.getElem?_eq_some_iff.1 h1).1
    have h3 : lowI x.names nm < x.l.length := by omega
    exact ⟨x.l[lowI x.names nm], List.getElem?_eq_getElem h3, by rw [List.getElem?_eq_getElem h3]; rfl, hx _ (List.getElem_mem h3)⟩
  obtain ⟨xk, xm, xs, xl⟩ := x
  obtain ⟨yk, ym, ys, yl⟩ := y
  unfold recG at h
  simp only [TA.names, TA.l] at h hxat hx hy hxn hyn
  have hbs := fun nm => bsearch_spec F xs nm hxn.2.1 hxn.2.2
  refine acallsG F.h278 (by simp [c_278]) ?_
  conv => whnf
  intro I hI hG
  have key : ∀ (d j : Nat) (S1 : TrS) (e' : Env), ys.length - j = d → j ≤ ys.length → S1.ok → foldO (fun S p => if p.1 ∈ xs then rel S (xl[lowI xs p.1]?.getD default) p.2 else some (false, S)) S1 ((ys.zip yl).drop j) = some (r, S') →
      I (setL e' [(0, .ptr 3 0), (4, .ptr 5 0), (5, .ptr 6 0), (12, .lst (strA ys) .none), (13, .int .i64 ys.length), (14, .int .i64 j)]) (jheap e loose S1 ++ [tcell (.mk xk xm xs xl), tcell (.mk yk ym ys yl)]) := by
    intro d
    induction d with
    | zero =>
      intro j S1 e' hd hj hok hf
      have hjl : j = ys.length := by omega
      rw [List.drop_of_length_le (by rw [List.length_zip]; omega), foldO] at hf
      cases hf
      apply hI
      conv => whnf
      rw [lt_false (by omega)]
      conv => whnf
      exact ⟨_, rfl, rfl⟩
    | succ d ihd =>
      intro j S1 e' hd hj hok hf
      have hjl : j < ys.length := by omega
      have hjl2 : j < yl.length := by omega
      have hjz : j < (ys.zip yl).length := by rw [List.length_zip]; omega
      rw [List.drop_eq_getElem_cons hjz, foldO, List.getElem_zip] at hf
      have hget : (strA ys)[((j : Nat) : Int).toNat]? = some (.str ys[j]) := by
        rw [Int.toNat_natCast]; simp [strA, List.getElem?_map, List.getElem?_eq_getElem hjl]
      have hgety := tas_at' hjl2
      have hGy := hy _ (List.getElem_mem hjl2)
      have hnext := fun S2 e' => ihd (j + 1) S2 e' (by omega) hjl
      generalize ys[j] = nm at hget hf
      generalize yl[j] = yt at hgety hGy hf
      dsimp only at hf
      have hlJ : ∀ S, LowHs 7 (jheap e loose S ++ [tcell (.mk xk xm xs xl), tcell (.mk yk ym ys yl)]) := fun S =>
        ⟨entsT_low 7 _ _, entsE_low 7 _ _, lowC ⟨.map _ (by decide : 0 < 7), .map _ (by decide : 1 < 7), trivial⟩, lowC ⟨.ptr _ _ (by decide : 2 < 7), .bool _, (low_tval S).mono (by decide), trivial⟩, low_tobj 7 S, lowO_mono (Nat.zero_le _) (low_tcell _), lowO_mono (Nat.zero_le _) (low_tcell _), trivial⟩
      have hj1 : j + 1 < 9223372036854775808 := by omega
      apply hI
      conv => whnf
      rw [lt_true hjl]
      conv => whnf
      refine step_elem (Int.natCast_nonneg _) hget rfl ?_
      conv => whnf
      refine (hbs nm).to ?_
      conv => whnf
      by_cases hm : nm ∈ xs
      · rw [if_pos hm] at hf
        rw [decide_eq_true hm]
        obtain ⟨xt, k1, k2, k3⟩ := hxat nm hm
        rw [k2] at hf
        have hgetx : (TA.avs xl)[((lowI xs nm : Nat) : Int).toNat]? = some xt.av := by
          obtain ⟨h1, h2⟩ := List.getElem?_eq_some_iff.1 k1
          rw [← h2]
          exact tas_at' h1
        generalize lowI xs nm = lo at hgetx
        cases hq : rel S1 xt yt with
        | none => rw [hq] at hf; cases hf
        | some q =>
          obtain ⟨c, S2⟩ := q
          rw [hq] at hf
          obtain ⟨hok2, hc⟩ := hR _ _ _ _ _ hok k3 hGy hq
          have hlr := low_rel xt yt
          obtain ⟨ak, am, as, al⟩ := xt
          obtain ⟨bk, bm, bs, bl⟩ := yt
          conv => whnf
          refine step_elem (Int.natCast_nonneg _) hgetx rfl ?_
          conv => whnf
          refine step_elem (Int.natCast_nonneg _) hgety rfl ?_
          conv => whnf
          refine hc.to rfl hlr (low_jheap _ _ _) (.bool _) (low_jheap _ _ _) [tcell (.mk xk xm xs xl), tcell (.mk yk ym ys yl)] rfl ?_
          cases c
          · cases hf
            conv => whnf
            exact ⟨_, rfl, rfl⟩
          · have hf : foldO (fun S p => if p.1 ∈ xs then rel S (xl[lowI xs p.1]?.getD default) p.2 else some (false, S)) S2 ((ys.zip yl).drop (j + 1)) = some (r, S') := hf
            conv => whnf
            exact hG.keep [(0, .ptr 3 0), (4, .ptr 5 0), (5, .ptr 6 0), (12, .lst (strA ys) .none), (13, .int .i64 ys.length), (14, .int .i64 (j + 1 : Nat))] (jheap e loose S2 ++ [tcell (.mk xk xm xs xl), tcell (.mk yk ym ys yl)]) (Nat.le_refl 7) rfl ⟨rfl, rfl, rfl, rfl, rfl, add1 hj1, trivial⟩
              ⟨.ptr _ _ (by decide : 3 < 7), .ptr _ _ (by decide : 5 < 7), .ptr _ _ (by decide : 6 < 7), low_strs' _ _ _ trivial, .int _ _, .int _ _, trivial⟩ (hlJ S2) (hnext _ _ hok2 hf)
      · rw [if_neg hm] at hf
        rw [decide_eq_false hm]
        cases hf
        conv => whnf
        exact ⟨_, rfl, rfl⟩
  exact inv_of [(0, .ptr 3 0), (4, .ptr 5 0), (5, .ptr 6 0), (12, .lst (strA ys) .none), (13, .int .i64 ys.length), (14, .int .i64 0)] ⟨rfl, rfl, rfl, rfl, by show AVal.int .i64 ((strA ys).length : Nat) = _; rw [strA_len], rfl, trivial⟩ (key ys.length 0 S _ rfl (Nat.zero_le _) hS h)

end Go.Ag
/- A type's text tells it. -/
set_option linter.unusedVariables false
namespace Go.Ag
open Go

def gName (s : Bytes) : Prop := s ≠ [] ∧ (∀ c ∈ s, inA c alnumL = true) ∧ s ≠ kInt ∧ s ≠ kBool ∧ s ≠ kText

inductive RT : TA → Prop where
  | int : RT (.mk 1 [] [] [])
  | bool : RT (.mk 2 [] [] [])
  | text : RT (.mk 3 [] [] [])
  | dyn : RT (.mk 4 [] [] [])
  | rcd (ns : List Bytes) (l : List TA) (hs : ns.Pairwise (· < ·)) (hl : ns.length = l.length) (hn : ∀ n ∈ ns, gName n) (h : ∀ t ∈ l, RT t) : RT (.mk 5 [] ns l)
  | fn (a b : TA) (ha : RT a) (hb : RT b) : RT (.mk 6 [] [] [a, b])
  | uni (l : List TA) (h2 : 2 ≤ l.length) (h : ∀ t ∈ l, RT t) (h7 : ∀ t ∈ l, t.kind ≠ 7) : RT (.mk 7 [] [] l)
  | ref (nm : Bytes) (h : gName nm) : RT (.mk 8 nm [] [])

def D2 (r : Bytes) : Prop := ∀ c z, r = c :: z → inA c alnumL = false
def D1 (r : Bytes) : Prop := D2 r ∧ ∀ z, r ≠ 32 :: 45 :: 62 :: 32 :: z
def D0 (r : Bytes) : Prop := D1 r ∧ ∀ z, r ≠ 32 :: 124 :: 32 :: z

def C2 (a : TA) : Prop := ∀ b r r', RT b → prT a 2 ++ r = prT b 2 ++ r' → D2 r → D2 r' → a = b ∧ r = r'
def C1 (a : TA) : Prop := ∀ b r r', RT b → prT a 1 ++ r = prT b 1 ++ r' → D1 r → D1 r' → a = b ∧ r = r'
def C0 (a : TA) : Prop := ∀ b r r', RT b → prT a 0 ++ r = prT b 0 ++ r' → D0 r → D0 r' → a = b ∧ r = r'

theorem pr_int (lv : Nat) : prT (.mk 1 [] [] []) lv = kInt := by rw [prT]; rfl
theorem pr_bool (lv : Nat) : prT (.mk 2 [] [] []) lv = kBool := by rw [prT]; rfl
theorem pr_text (lv : Nat) : prT (.mk 3 [] [] []) lv = kText := by rw [prT]; rfl
theorem pr_dyn (lv : Nat) : prT (.mk 4 [] [] []) lv = [63] := by rw [prT]; rfl
theorem pr_rcd (ns : List Bytes) (l : List TA) (lv : Nat) : prT (.mk 5 [] ns l) lv = [123] ++ joinB [44, 32] (fldB ns (prL l 0)) ++ [125] := by rw [prT]; rfl
theorem pr_fn (a b : TA) (lv : Nat) : prT (.mk 6 [] [] [a, b]) lv = parB (prT a 2 ++ [32, 45, 62, 32] ++ prT b 1) (decide (2 ≤ lv)) := by rw [prT]; simp [prL]
theorem pr_uni (l : List TA) (h : l ≠ []) (lv : Nat) : prT (.mk 7 [] [] l) lv = parB (joinB [32, 124, 32] (prL l 1)) (decide (1 ≤ lv)) := by
  rw [prT]
  simp only [show ¬ (7 : Int) = 1 by decide, show ¬ (7 : Int) = 2 by decide, show ¬ (7 : Int) = 3 by decide, show ¬ (7 : Int) = 4 by decide, show ¬ (7 : Int) = 5 by decide, show ¬ (7 : Int) = 6 by decide, if_false, if_true]
  rw [if_neg]
  intro h0; exact h (List.eq_nil_of_length_eq_zero h0)
theorem pr_ref (nm : Bytes) (lv : Nat) : prT (.mk 8 nm [] []) lv = nm := by rw [prT]; rfl

theorem word_eq : ∀ {w w' r r' : Bytes}, (∀ c ∈ w, inA c alnumL = true) → (∀ c ∈ w', inA c alnumL = true) → D2 r → D2 r' → w ++ r = w' ++ r' → w = w' ∧ r = r'
  | [], [], r, r', _, _, _, _, e => ⟨rfl, e⟩
  | [], c :: w', r, r', _, h', hr, _, e => by
    have := hr c (w' ++ r') e
    rw [h' c (by simp)] at this; cases this
  | c :: w, [], r, r', h, _, _, hr', e => by
    have := hr' c (w ++ r) e.symm
    rw [h c (by simp)] at this; cases this
  | c :: w, d :: w', r, r', h, h', hr, hr', e => by
    simp only [List.cons_append, List.cons.injEq] at e
    obtain ⟨rfl, e⟩ := e
    obtain ⟨e1, e2⟩ := word_eq (fun x hx => h x (by simp [hx])) (fun x hx => h' x (by simp [hx])) hr hr' e
    exact ⟨by rw [e1], e2⟩

inductive Beg : TA → Prop where
  | word (t : TA) (k : t.kind = 1 ∨ t.kind = 2 ∨ t.kind = 3 ∨ t.kind = 8) (hne : prT t 2 ≠ []) (h : ∀ c ∈ prT t 2, inA c alnumL = true) : Beg t
  | dyn : Beg (.mk 4 [] [] [])
  | rcd (ns : List Bytes) (l : List TA) (z : Bytes) (h : prT (.mk 5 [] ns l) 2 = 123 :: z) : Beg (.mk 5 [] ns l)
  | par (t : TA) (k : t.kind = 6 ∨ t.kind = 7) (h : prT t 2 = 40 :: (prT t 0 ++ [41])) : Beg t
theorem beg {t : TA} (h : RT t) : Beg t := by
  cases h with
  | int => exact .word _ (.inl rfl) (by rw [pr_int]; decide) (by rw [pr_int]; decide)
  | bool => exact .word _ (.inr (.inl rfl)) (by rw [pr_bool]; decide) (by rw [pr_bool]; decide)
  | text => exact .word _ (.inr (.inr (.inl rfl))) (by rw [pr_text]; decide) (by rw [pr_text]; decide)
  | dyn => exact .dyn
  | rcd ns l => exact .rcd ns l _ (by rw [pr_rcd]; rfl)
  | fn a b => exact .par _ (.inl rfl) (by rw [pr_fn, pr_fn]; rfl)
  | uni l h2 => exact .par _ (.inr rfl) (by
      have : l ≠ [] := by rintro rfl; simp at h2
      rw [pr_uni _ this, pr_uni _ this]; rfl)
  | ref nm h => exact .word _ (.inr (.inr (.inr rfl))) (by rw [pr_ref]; exact h.1) (by rw [pr_ref]; exact h.2.1)

theorem word_first {w z r : Bytes} (hne : w ≠ []) (h : ∀ c ∈ w, inA c alnumL = true) {c : UInt8} (hc : inA c alnumL = false) : w ++ r ≠ c :: z := by
  cases w with
  | nil => exact absurd rfl hne
  | cons d w =>
    intro e
    simp only [List.cons_append, List.cons.injEq] at e
    rw [← e.1, h d (by simp)] at hc
    cases hc

theorem D2_of {c : UInt8} {z : Bytes} (h : inA c alnumL = false) : D2 (c :: z) := fun d y e => by cases e; exact h
theorem D1_of {c : UInt8} {z : Bytes} (h : inA c alnumL = false) (hc : c ≠ 32) : D1 (c :: z) := ⟨D2_of h, fun y e => hc (by cases e; rfl)⟩
theorem D0_of {c : UInt8} {z : Bytes} (h : inA c alnumL = false) (hc : c ≠ 32) : D0 (c :: z) := ⟨D1_of h hc, fun y e => hc (by cases e; rfl)⟩

theorem pr12 {t : TA} (h : RT t) (h6 : t.kind ≠ 6) : prT t 1 = prT t 2 := by
  cases h with
  | int => rw [pr_int, pr_int]
  | bool => rw [pr_bool, pr_bool]
  | text => rw [pr_text, pr_text]
  | dyn => rw [pr_dyn, pr_dyn]
  | rcd => rw [pr_rcd, pr_rcd]
  | fn => exact absurd rfl h6
  | uni l h2 =>
    have : l ≠ [] := by rintro rfl; simp at h2
    rw [pr_uni _ this, pr_uni _ this]; rfl
  | ref => rw [pr_ref, pr_ref]
theorem pr01 {t : TA} (h : RT t) (h7 : t.kind ≠ 7) : prT t 0 = prT t 1 := by
  cases h with
  | int => rw [pr_int, pr_int]
  | bool => rw [pr_bool, pr_bool]
  | text => rw [pr_text, pr_text]
  | dyn => rw [pr_dyn, pr_dyn]
  | rcd => rw [pr_rcd, pr_rcd]
  | fn => rw [pr_fn, pr_fn]; rfl
  | uni => exact absurd rfl h7
  | ref => rw [pr_ref, pr_ref]
theorem fn_form {t : TA} (h : RT t) (h6 : t.kind = 6) : ∃ a b, t = .mk 6 [] [] [a, b] ∧ RT a ∧ RT b := by
  cases h <;> first | (cases h6; done) | exact ⟨_, _, rfl, by assumption, by assumption⟩
theorem uni_form {t : TA} (h : RT t) (h7 : t.kind = 7) : ∃ q qs, t = .mk 7 [] [] (q :: qs) ∧ qs ≠ [] ∧ (∀ x ∈ q :: qs, RT x) ∧ ∀ x ∈ q :: qs, x.kind ≠ 7 := by
  cases h with
  | uni l h2 h h7' =>
    match l, h2 with
    | q :: p :: qs, _ => exact ⟨q, p :: qs, rfl, by simp, h, h7'⟩
  | _ => cases h7
theorem pr_fn1 (a b : TA) : prT (.mk 6 [] [] [a, b]) 1 = prT a 2 ++ ([32, 45, 62, 32] ++ prT b 1) := by rw [pr_fn]; show _ ++ _ ++ _ = _; rw [List.append_assoc]

theorem C1_of_C2 {a : TA} (ha : RT a) (h6 : a.kind ≠ 6) (h : C2 a) : C1 a := fun b r r' hb e hr hr' => by
  rw [pr12 ha h6] at e
  by_cases hb6 : b.kind = 6
  · obtain ⟨b1, b2, rfl, k1, k2⟩ := fn_form hb hb6
    rw [pr_fn1, List.append_assoc] at e
    obtain ⟨_, e2⟩ := h b1 _ _ k1 e hr.1 (D2_of (by decide))
    exact absurd e2 (by rw [List.append_assoc]; exact hr.2 _)
  · rw [pr12 hb hb6] at e
    exact h b r r' hb e hr.1 hr'.1
theorem C1_fn {a1 a2 : TA} (h1 : C2 a1) (h2 : C1 a2) : C1 (.mk 6 [] [] [a1, a2]) := fun b r r' hb e hr hr' => by
  rw [pr_fn1, List.append_assoc] at e
  by_cases hb6 : b.kind = 6
  · obtain ⟨b1, b2, rfl, k1, k2⟩ := fn_form hb hb6
    rw [pr_fn1] at e
    simp only [List.append_assoc] at e
    have hsp : ∀ z : Bytes, D2 ([32, 45, 62, 32] ++ z) := fun z => D2_of (by decide)
    obtain ⟨rfl, e2⟩ := h1 b1 _ _ k1 e (hsp _) (hsp _)
    obtain ⟨rfl, e3⟩ := h2 b2 r r' k2 (List.append_cancel_left e2) hr hr'
    exact ⟨rfl, e3⟩
  · rw [pr12 hb hb6] at e
    obtain ⟨_, e2⟩ := h1 b _ _ hb e (D2_of (by decide)) hr'.1
    exact absurd e2.symm (by rw [List.append_assoc]; exact hr'.2 _)

def tailU (qs : List TA) : Bytes := qs.flatMap fun q => [32, 124, 32] ++ prT q 1
theorem join_tail (q : TA) : ∀ qs : List TA, joinB [32, 124, 32] (prL (q :: qs) 1) = prT q 1 ++ tailU qs
  | [] => by rw [prL, prL]; simp [joinB, tailU]
  | p :: qs => by
    rw [prL, prL]
    have := join_tail p qs
    rw [prL] at this
    show prT q 1 ++ [32, 124, 32] ++ joinB [32, 124, 32] (prT p 1 :: prL qs 1) = _
    rw [this]
    simp [tailU, List.append_assoc]
theorem pr_uni0 (q : TA) (qs : List TA) : prT (.mk 7 [] [] (q :: qs)) 0 = prT q 1 ++ tailU qs := by rw [pr_uni _ (by simp)]; exact join_tail q qs
theorem D1_tail {qs : List TA} {r : Bytes} (hr : D0 r) : D1 (tailU qs ++ r) := by
  cases qs with
  | nil => exact hr.1
  | cons q qs => exact ⟨D2_of (by decide), fun z e => by simp [tailU] at e⟩

theorem C0_of_C1 {a : TA} (ha : RT a) (h7 : a.kind ≠ 7) (h : C1 a) : C0 a := fun b r r' hb e hr hr' => by
  rw [pr01 ha h7] at e
  by_cases hb7 : b.kind = 7
  · obtain ⟨p, ps, rfl, hne, k1, k2⟩ := uni_form hb hb7
    rw [pr_uni0, List.append_assoc] at e
    obtain ⟨_, e2⟩ := h p _ _ (k1 p (by simp)) e hr.1 (D1_tail hr')
    cases ps with
    | nil => exact absurd rfl hne
    | cons p' ps => exact absurd e2 (by simp only [tailU, List.flatMap_cons, List.append_assoc]; exact hr.2 _)
  · rw [pr01 hb hb7] at e
    exact h b r r' hb e hr.1 hr'.1
theorem tail_eq : ∀ {qs ps : List TA} {r r' : Bytes}, (∀ q ∈ qs, C1 q) → (∀ p ∈ ps, RT p) → D0 r → D0 r' → tailU qs ++ r = tailU ps ++ r' → qs = ps ∧ r = r'
  | [], [], r, r', _, _, _, _, e => ⟨rfl, e⟩
  | [], p :: ps, r, r', _, _, hr, _, e => absurd e (by simp only [tailU, List.flatMap_nil, List.nil_append, List.flatMap_cons, List.append_assoc]; exact hr.2 _)
  | q :: qs, [], r, r', _, _, _, hr', e => absurd e.symm (by simp only [tailU, List.flatMap_nil, List.nil_append, List.flatMap_cons, List.append_assoc]; exact hr'.2 _)
  | q :: qs, p :: ps, r, r', hq, hp, hr, hr', e => by
    have e1 : prT q 1 ++ (tailU qs ++ r) = prT p 1 ++ (tailU ps ++ r') := by
      simp only [tailU, List.flatMap_cons, List.append_assoc] at e
      have := List.append_cancel_left e
      simpa only [tailU] using this
    obtain ⟨rfl, e2⟩ := hq q (by simp) p _ _ (hp p (by simp)) e1 (D1_tail hr) (D1_tail hr')
    obtain ⟨rfl, e3⟩ := tail_eq (fun x hx => hq x (by simp [hx])) (fun x hx => hp x (by simp [hx])) hr hr' e2
    exact ⟨rfl, e3⟩
theorem C0_uni {q : TA} {qs : List TA} (hne : qs ≠ []) (h : ∀ x ∈ q :: qs, C1 x) : C0 (.mk 7 [] [] (q :: qs)) := fun b r r' hb e hr hr' => by
  rw [pr_uni0, List.append_assoc] at e
  by_cases hb7 : b.kind = 7
  · obtain ⟨p, ps, rfl, hne', k1, k2⟩ := uni_form hb hb7
    rw [pr_uni0, List.append_assoc] at e
    obtain ⟨rfl, e2⟩ := h q (by simp) p _ _ (k1 p (by simp)) e (D1_tail hr) (D1_tail hr')
    obtain ⟨rfl, e3⟩ := tail_eq (fun x hx => h x (by simp [hx])) (fun x hx => k1 x (by simp [hx])) hr hr' e2
    exact ⟨rfl, e3⟩
  · rw [pr01 hb hb7] at e
    obtain ⟨_, e2⟩ := h q (by simp) b _ _ hb e (D1_tail hr) hr'.1
    cases qs with
    | nil => exact absurd rfl hne
    | cons q' qs => exact absurd e2.symm (by simp only [tailU, List.flatMap_cons, List.append_assoc]; exact hr'.2 _)

theorem C2_of_C0 {a : TA} (ha : RT a) (k : a.kind = 6 ∨ a.kind = 7) (h : C0 a) : C2 a := fun b r r' hb e hr hr' => by
  have ea : prT a 2 = 40 :: (prT a 0 ++ [41]) := by
    cases beg ha with
    | word _ k' => rcases k with k | k <;> rw [k] at k' <;> simp at k'
    | dyn => rcases k with k | k <;> cases k
    | rcd => rcases k with k | k <;> cases k
    | par _ _ h => exact h
  rw [ea] at e
  have eb : prT b 2 = 40 :: (prT b 0 ++ [41]) := by
    cases beg hb with
    | word _ k' hne hw => exact absurd e.symm (word_first hne hw (by decide))
    | dyn => rw [pr_dyn] at e; cases e
    | rcd _ _ z h' => rw [h'] at e; cases e
    | par _ _ h => exact h
  rw [eb] at e
  simp only [List.cons_append, List.append_assoc, List.cons.injEq, true_and] at e
  obtain ⟨e1, e2⟩ := h b _ _ hb e (D0_of (by decide) (by decide)) (D0_of (by decide) (by decide))
  exact ⟨e1, by simpa using e2⟩

def tailF : List Bytes → List TA → Bytes
  | n :: ns, t :: l => [44, 32] ++ (n ++ ([58, 32] ++ (prT t 0 ++ tailF ns l)))
  | _, _ => [125]
theorem join_fld : ∀ (n : Bytes) (ns : List Bytes) (t : TA) (l : List TA), joinB [44, 32] (fldB (n :: ns) (prL (t :: l) 0)) ++ [125] = n ++ ([58, 32] ++ (prT t 0 ++ tailF ns l))
  | n, [], t, l => by rw [prL]; simp [fldB, joinB, tailF]
  | n, m :: ns, t, [] => by rw [prL, prL]; simp [fldB, joinB, tailF]
  | n, m :: ns, t, u :: l => by
    have := join_fld m ns u l
    rw [prL, prL]
    rw [prL] at this
    show (n ++ [58, 32] ++ prT t 0) ++ [44, 32] ++ joinB [44, 32] (fldB (m :: ns) (prT u 0 :: prL l 0)) ++ [125] = _
    rw [List.append_assoc _ _ [125], this, tailF]
    simp [List.append_assoc]
theorem fld_eq : ∀ {ns ns' : List Bytes} {l l' : List TA} {r r' : Bytes}, ns.length = l.length → ns'.length = l'.length → (∀ n ∈ ns, gName n) → (∀ n ∈ ns', gName n) → (∀ t ∈ l, C0 t) → (∀ t ∈ l', RT t) → tailF ns l ++ r = tailF ns' l' ++ r' → ns = ns' ∧ l = l' ∧ r = r'
  | [], [], [], [], r, r', _, _, _, _, _, _, e => ⟨rfl, rfl, by simpa [tailF] using e⟩
  | [], n :: ns, [], t :: l, r, r', _, _, _, _, _, _, e => by simp [tailF] at e
  | n :: ns, [], t :: l, [], r, r', _, _, _, _, _, _, e => by simp [tailF] at e
  | n :: ns, m :: ns', t :: l, u :: l', r, r', h1, h2, hn, hn', hc, hr, e => by
    rw [tailF, tailF] at e
    simp only [List.append_assoc] at e
    have e1 := List.append_cancel_left e
    clear e
    have hsp : ∀ z : Bytes, D2 ([58, 32] ++ z) := fun z => D2_of (by decide)
    obtain ⟨rfl, e2⟩ := word_eq (hn n (by simp)).2.1 (hn' m (by simp)).2.1 (hsp _) (hsp _) e1
    clear e1
    have e3 := List.append_cancel_left e2
    have hD : ∀ (ns : List Bytes) (l : List TA) (r : Bytes), D0 (tailF ns l ++ r) := fun ns l r => by
      match ns, l with
      | [], _ => exact D0_of (by decide) (by decide)
      | _ :: _, [] => exact D0_of (by decide) (by decide)
      | _ :: _, _ :: _ => exact D0_of (by decide) (by decide)
    obtain ⟨rfl, e4⟩ := hc t (by simp) u _ _ (hr u (by simp)) e3 (hD _ _ _) (hD _ _ _)
    obtain ⟨rfl, rfl, e5⟩ := fld_eq (by simpa using h1) (by simpa using h2) (fun x hx => hn x (by simp [hx])) (fun x hx => hn' x (by simp [hx])) (fun x hx => hc x (by simp [hx])) (fun x hx => hr x (by simp [hx])) e4
    exact ⟨rfl, rfl, e5⟩

theorem C2_rcd {ns : List Bytes} {l : List TA} (hl : ns.length = l.length) (hn : ∀ n ∈ ns, gName n) (h : ∀ t ∈ l, C0 t) : C2 (.mk 5 [] ns l) := fun b r r' hb e hr hr' => by
  rw [pr_rcd] at e
  cases hb with
  | rcd ns' l' hs' hl' hn' h' =>
    rw [pr_rcd] at e
    simp only [List.append_assoc] at e
    have e := List.append_cancel_left e
    match ns, l, ns', l' with
    | [], [], [], [] => exact ⟨rfl, by simpa [fldB, joinB] using e⟩
    | [], [], n :: ns', t :: l' =>
      rw [← List.append_assoc, ← List.append_assoc, join_fld] at e
      have : inA 125 alnumL = false := by decide
      exact absurd e.symm (by
        simp only [fldB, prL, List.zipWith_nil_left, joinB, List.nil_append, List.cons_append, List.append_assoc]
        exact word_first (hn' n (by simp)).1 (hn' n (by simp)).2.1 this)
    | n :: ns, t :: l, [], [] =>
      rw [← List.append_assoc, ← List.append_assoc, join_fld] at e
      have : inA 125 alnumL = false := by decide
      exact absurd e (by
        simp only [fldB, prL, List.zipWith_nil_left, joinB, List.nil_append, List.cons_append, List.append_assoc]
        exact word_first (hn n (by simp)).1 (hn n (by simp)).2.1 this)
    | n :: ns, t :: l, m :: ns', u :: l' =>
      rw [← List.append_assoc, ← List.append_assoc, join_fld, join_fld] at e
      obtain ⟨e1, e2, e3⟩ := fld_eq (ns := n :: ns) (ns' := m :: ns') (l := t :: l) (l' := u :: l') (r := r) (r' := r') hl hl' hn hn' h h' (by rw [tailF, tailF]; simp only [List.append_assoc] at e ⊢; rw [e])
      exact ⟨by rw [e1, e2], e3⟩
    | [], _ :: _, _, _ => cases hl
    | _ :: _, [], _, _ => cases hl
    | _, _, [], _ :: _ => cases hl'
    | _, _, _ :: _, [] => cases hl'
  | int => rw [pr_int] at e; cases e
  | bool => rw [pr_bool] at e; cases e
  | text => rw [pr_text] at e; cases e
  | dyn => rw [pr_dyn] at e; cases e
  | fn a b => rw [pr_fn] at e; cases e
  | uni l' h2 =>
    have : l' ≠ [] := by rintro rfl; simp at h2
    rw [pr_uni _ this] at e; cases e
  | ref nm h => rw [pr_ref] at e; exact absurd e.symm (word_first h.1 h.2.1 (by decide))

theorem C2_word {a : TA} (ha : RT a) (k : a.kind = 1 ∨ a.kind = 2 ∨ a.kind = 3 ∨ a.kind = 8) : C2 a := fun b r r' hb e hr hr' => by
  have hw : prT a 2 ≠ [] ∧ ∀ c ∈ prT a 2, inA c alnumL = true := by
    cases beg ha with
    | word _ _ hne h => exact ⟨hne, h⟩
    | dyn => rcases k with k | k | k | k <;> cases k
    | rcd => rcases k with k | k | k | k <;> cases k
    | par _ k' => rcases k' with k' | k' <;> rw [k'] at k <;> simp at k
  cases beg hb with
  | word _ k' hne hw' =>
    obtain ⟨e1, e2⟩ := word_eq hw.2 hw' hr hr' e
    refine ⟨?_, e2⟩
    cases ha <;> (try (rcases k with k | k | k | k <;> cases k; done)) <;> cases hb <;> (try (rcases k' with k' | k' | k' | k' <;> cases k'; done)) <;>
      simp only [pr_int, pr_bool, pr_text, pr_ref] at e1 <;> (try (exact absurd e1 (by decide))) <;> (try rfl)
    · rename_i nm h; exact absurd e1.symm h.2.2.1
    · rename_i nm h; exact absurd e1.symm h.2.2.2.1
    · rename_i nm h; exact absurd e1.symm h.2.2.2.2
    · rename_i nm h; exact absurd e1 h.2.2.1
    · rename_i nm h; exact absurd e1 h.2.2.2.1
    · rename_i nm h; exact absurd e1 h.2.2.2.2
    · rw [e1]
  | dyn => rw [pr_dyn] at e; exact absurd e (word_first hw.1 hw.2 (by decide))
  | rcd _ _ z h => rw [h] at e; exact absurd e (word_first hw.1 hw.2 (by decide))
  | par _ _ h => rw [h] at e; exact absurd e (word_first hw.1 hw.2 (by decide))

theorem C2_dyn : C2 (.mk 4 [] [] []) := fun b r r' hb e hr hr' => by
  rw [pr_dyn] at e
  cases beg hb with
  | word _ _ hne h => exact absurd e.symm (word_first hne h (by decide))
  | dyn => rw [pr_dyn] at e; exact ⟨rfl, by simpa using e⟩
  | rcd _ _ z h => rw [h] at e; cases e
  | par _ _ h => rw [h] at e; cases e

theorem reads {a : TA} (h : RT a) : C2 a ∧ C1 a ∧ C0 a := by
  induction h with
  | int => have h := RT.int; have c2 := C2_word h (.inl rfl); have c1 := C1_of_C2 h (by decide) c2; exact ⟨c2, c1, C0_of_C1 h (by decide) c1⟩
  | bool => have h := RT.bool; have c2 := C2_word h (.inr (.inl rfl)); have c1 := C1_of_C2 h (by decide) c2; exact ⟨c2, c1, C0_of_C1 h (by decide) c1⟩
  | text => have h := RT.text; have c2 := C2_word h (.inr (.inr (.inl rfl))); have c1 := C1_of_C2 h (by decide) c2; exact ⟨c2, c1, C0_of_C1 h (by decide) c1⟩
  | dyn => have h := RT.dyn; have c2 := C2_dyn; have c1 := C1_of_C2 h (by decide) c2; exact ⟨c2, c1, C0_of_C1 h (by decide) c1⟩
  | ref nm hn => have h := RT.ref nm hn; have c2 := C2_word h (.inr (.inr (.inr rfl))); have c1 := C1_of_C2 h (by simp [TA.kind]) c2; exact ⟨c2, c1, C0_of_C1 h (by simp [TA.kind]) c1⟩
  | rcd ns l hs hl hn hr ih =>
    have h := RT.rcd ns l hs hl hn hr
    have c2 := C2_rcd hl hn fun t ht => (ih t ht).2.2
    have c1 := C1_of_C2 h (by simp [TA.kind]) c2
    exact ⟨c2, c1, C0_of_C1 h (by simp [TA.kind]) c1⟩
  | fn a b ha hb iha ihb =>
    have h := RT.fn a b ha hb
    have c1 := C1_fn iha.1 ihb.2.1
    have c0 := C0_of_C1 h (by simp [TA.kind]) c1
    exact ⟨C2_of_C0 h (.inl rfl) c0, c1, c0⟩
  | uni l h2 hr h7 ih =>
    have h := RT.uni l h2 hr h7
    match l, h2 with
    | q :: p :: qs, _ =>
      have c0 := C0_uni (q := q) (qs := p :: qs) (by simp) fun x hx => (ih x hx).2.1
      have c2 := C2_of_C0 h (.inr rfl) c0
      exact ⟨c2, C1_of_C2 h (by simp [TA.kind]) c2, c0⟩

theorem prT_inj {a b : TA} (ha : RT a) (hb : RT b) (e : prT a 0 = prT b 0) : a = b := by
  have hD : D0 [] := ⟨⟨fun c z e => (by cases e), fun z e => (by cases e)⟩, fun z e => (by cases e)⟩
  exact ((reads ha).2.2 b [] [] hb (by rw [List.append_nil, List.append_nil]; exact e) hD hD).1

end Go.Ag
/- Good types, and what is made normal of them. -/
set_option linter.unusedVariables false
namespace Go.Ag
open Go

inductive GT : TA → Prop where
  | int : GT (.mk 1 [] [] [])
  | bool : GT (.mk 2 [] [] [])
  | text : GT (.mk 3 [] [] [])
  | dyn : GT (.mk 4 [] [] [])
  | rcd (ns : List Bytes) (l : List TA) (hs : ns.Pairwise (· < ·)) (hl : ns.length = l.length) (hn : ∀ n ∈ ns, gName n) (h : ∀ t ∈ l, GT t) : GT (.mk 5 [] ns l)
  | fn (a b : TA) (ha : GT a) (hb : GT b) : GT (.mk 6 [] [] [a, b])
  | uni (l : List TA) (h0 : l ≠ []) (h : ∀ t ∈ l, GT t) : GT (.mk 7 [] [] l)
  | ref (nm : Bytes) (h : gName nm) : GT (.mk 8 nm [] [])

inductive NT : TA → Prop where
  | int : NT (.mk 1 [] [] [])
  | bool : NT (.mk 2 [] [] [])
  | text : NT (.mk 3 [] [] [])
  | dyn : NT (.mk 4 [] [] [])
  | rcd (ns : List Bytes) (l : List TA) (hs : ns.Pairwise (· < ·)) (hl : ns.length = l.length) (hn : ∀ n ∈ ns, gName n) (h : ∀ t ∈ l, NT t) : NT (.mk 5 [] ns l)
  | fn (a b : TA) (ha : NT a) (hb : NT b) : NT (.mk 6 [] [] [a, b])
  | uni (l : List TA) (h2 : 2 ≤ l.length) (h : ∀ t ∈ l, NT t) (h7 : ∀ t ∈ l, t.kind ≠ 7 ∧ t.kind ≠ 4) (hs : l.Pairwise fun a b => prT a 0 < prT b 0) : NT (.mk 7 [] [] l)
  | ref (nm : Bytes) (h : gName nm) : NT (.mk 8 nm [] [])

theorem NT.rt {t : TA} (h : NT t) : RT t := by
  induction h with
  | int => exact .int
  | bool => exact .bool
  | text => exact .text
  | dyn => exact .dyn
  | rcd ns l hs hl hn h ih => exact .rcd ns l hs hl hn ih
  | fn a b ha hb iha ihb => exact .fn a b iha ihb
  | uni l h2 h h7 hs ih => exact .uni l h2 ih fun t ht => (h7 t ht).1
  | ref nm h => exact .ref nm h
theorem NT.gt {t : TA} (h : NT t) : GT t := by
  induction h with
  | int => exact .int
  | bool => exact .bool
  | text => exact .text
  | dyn => exact .dyn
  | rcd ns l hs hl hn h ih => exact .rcd ns l hs hl hn ih
  | fn a b ha hb iha ihb => exact .fn a b iha ihb
  | uni l h2 h h7 hs ih => exact .uni l (by rintro rfl; simp at h2) ih
  | ref nm h => exact .ref nm h
theorem NT.inj {a b : TA} (ha : NT a) (hb : NT b) (e : prT a 0 = prT b 0) : a = b := prT_inj ha.rt hb.rt e
theorem NT.parts {t : TA} (h : NT t) : ∀ x ∈ t.l, NT x := by
  cases h with
  | rcd ns l hs hl hn h => exact h
  | fn a b ha hb =>
    intro x hx
    simp only [TA.l, List.mem_cons, List.not_mem_nil, or_false] at hx
    rcases hx with rfl | rfl
    · exact ha
    · exact hb
  | uni l h2 h h7 hs => exact h
  | _ => intro x hx; cases hx
theorem NT.wf {t : TA} (h : NT t) : wfT t := by
  have hL : ∀ {l : List TA}, (∀ t ∈ l, wfT t) → wfL l := fun {l} hl => by
    induction l with
    | nil => trivial
    | cons x l ih => exact ⟨hl x (by simp), ih fun t ht => hl t (by simp [ht])⟩
  induction h with
  | rcd ns l hs hl hn h ih => exact ⟨fun _ => by omega, fun h => (by cases h), hL ih⟩
  | fn a b ha hb iha ihb => exact ⟨fun h => (by cases h), fun _ => Nat.le_refl 2, iha, ihb, trivial⟩
  | uni l h2 h h7 hs ih => exact ⟨fun h => (by cases h), fun h => (by cases h), hL ih⟩
  | _ => exact ⟨fun h => (by cases h), fun h => (by cases h), trivial⟩
theorem NT.dyn_eq {t : TA} (h : NT t) (h4 : t.kind = 4) : t = dynT := by cases h <;> first | (cases h4; done) | rfl

theorem dedGo_sorted {α : Type} : ∀ (l : List (α × Bytes)) (p : Bytes), l.Pairwise (fun a b => a.2 ≤ b.2) → (∀ y ∈ l, p ≤ y.2) → (dedGo p l).Pairwise (fun a b => a.2 < b.2) ∧ ∀ y ∈ dedGo p l, p < y.2 ∧ y ∈ l
  | [], p, _, _ => ⟨by simp [dedGo], fun y hy => by simp [dedGo] at hy⟩
  | x :: l, p, hs, hp => by
    obtain ⟨h1, h2⟩ := List.pairwise_cons.1 hs
    obtain ⟨k1, k2⟩ := dedGo_sorted l x.2 h2 h1
    rw [dedGo]
    split
    · rename_i he
      have he : x.2 = p := by simpa using he
      exact ⟨k1, fun y hy => ⟨by rw [← he]; exact (k2 y hy).1, by simp [(k2 y hy).2]⟩⟩
    · rename_i he
      have he : x.2 ≠ p := by simpa using he
      have hlt : p < x.2 := by
        have := hp x (by simp)
        by_cases h : p < x.2
        · exact h
        · exact absurd (List.le_antisymm (List.not_lt.1 h) this) he
      refine ⟨List.pairwise_cons.2 ⟨fun y hy => (k2 y hy).1, k1⟩, fun y hy => ?_⟩
      rcases List.mem_cons.1 hy with rfl | hy
      · exact ⟨hlt, by simp⟩
      · exact ⟨List.lt_trans hlt (k2 y hy).1, by simp [(k2 y hy).2]⟩
theorem dedK_sorted {α : Type} {l : List (α × Bytes)} (hs : l.Pairwise fun a b => a.2 ≤ b.2) : (dedK l).Pairwise (fun a b => a.2 < b.2) ∧ ∀ y ∈ dedK l, y ∈ l := by
  cases l with
  | nil => exact ⟨by simp [dedK], fun y hy => by simp [dedK] at hy⟩
  | cons x l =>
    obtain ⟨h1, h2⟩ := List.pairwise_cons.1 hs
    obtain ⟨k1, k2⟩ := dedGo_sorted l x.2 h2 h1
    exact ⟨List.pairwise_cons.2 ⟨fun y hy => (k2 y hy).1, k1⟩, fun y hy => by
      rcases List.mem_cons.1 hy with rfl | hy
      · simp
      · simp [(k2 y hy).2]⟩
theorem dedGo_all {α : Type} : ∀ (l : List (α × Bytes)) (p : Bytes), ∀ y ∈ l, y.2 = p ∨ ∃ z ∈ dedGo p l, z.2 = y.2
  | x :: l, p, y, hy => by
    rw [dedGo]
    have ih := dedGo_all l x.2
    split
    · rename_i he
      have he : x.2 = p := by simpa using he
      rcases List.mem_cons.1 hy with rfl | hy
      · exact .inl he
      · rcases ih y hy with h | h
        · exact .inl (h.trans he)
        · exact .inr h
    · rcases List.mem_cons.1 hy with rfl | hy
      · exact .inr ⟨y, by simp, rfl⟩
      · rcases ih y hy with h | ⟨z, hz, h⟩
        · exact .inr ⟨x, by simp, h.symm⟩
        · exact .inr ⟨z, by simp [hz], h⟩
theorem dedK_all {α : Type} {l : List (α × Bytes)} : ∀ y ∈ l, ∃ z ∈ dedK l, z.2 = y.2 := fun y hy => by
  cases l with
  | nil => cases hy
  | cons x l =>
    rcases List.mem_cons.1 hy with rfl | hy
    · exact ⟨y, by simp [dedK], rfl⟩
    · rcases dedGo_all l x.2 y hy with h | ⟨z, hz, h⟩
      · exact ⟨x, by simp [dedK], h.symm⟩
      · exact ⟨z, by simp [dedK, hz], h⟩

def partsU (l : List TA) : List TA := (dedK (sortP (keyT l))).map (·.1)
theorem ded_key {l : List TA} : ∀ p ∈ dedK (sortP (keyT l)), p.2 = prT p.1 0 ∧ p.1 ∈ l := fun p hp => by
  have h1 := (dedK_sorted (sortP_sorted (keyT l))).2 p hp
  have h2 := (sortP_perm (keyT l)).mem_iff.1 h1
  obtain ⟨t, ht, rfl⟩ := List.mem_map.1 h2
  exact ⟨rfl, ht⟩
theorem partsU_sorted (l : List TA) : (partsU l).Pairwise fun a b => prT a 0 < prT b 0 := by
  unfold partsU
  rw [List.pairwise_map]
  refine (dedK_sorted (sortP_sorted (keyT l))).1.imp_of_mem fun {a b} ha hb h => ?_
  rw [← (ded_key a ha).1, ← (ded_key b hb).1]
  exact h
theorem partsU_mem {l : List TA} {t : TA} (h : t ∈ partsU l) : t ∈ l := by
  obtain ⟨p, hp, rfl⟩ := List.mem_map.1 h
  exact (ded_key p hp).2
theorem partsU_all {l : List TA} {t : TA} (h : t ∈ l) : ∃ u ∈ partsU l, prT u 0 = prT t 0 := by
  obtain ⟨z, hz, e⟩ := dedK_all (l := sortP (keyT l)) (t, prT t 0) ((sortP_perm (keyT l)).mem_iff.2 (List.mem_map.2 ⟨t, h, rfl⟩))
  exact ⟨z.1, List.mem_map.2 ⟨z, hz, rfl⟩, by rw [← (ded_key z hz).1]; exact e⟩
theorem partsU_ne {l : List TA} (h : l ≠ []) : partsU l ≠ [] := by
  cases l with
  | nil => exact absurd rfl h
  | cons t l =>
    obtain ⟨u, hu, _⟩ := partsU_all (l := t :: l) (t := t) (by simp)
    intro e
    rw [e] at hu; cases hu
theorem partsU_iff {l : List TA} (hl : ∀ t ∈ l, NT t) {t : TA} : t ∈ partsU l ↔ t ∈ l := by
  refine ⟨partsU_mem, fun h => ?_⟩
  obtain ⟨u, hu, e⟩ := partsU_all h
  have := (hl u (partsU_mem hu)).inj (hl t h) e
  rw [← this]; exact hu

def unionP : List TA → TA
  | [t] => t
  | l => .mk 7 [] [] l
theorem unionT_eq (l : List TA) : unionT l = match (flatT l).find? (fun t => t.kind == 4) with
    | some t => t
    | none => unionP (partsU (flatT l)) := by
  unfold unionT
  split
  · rename_i t h; rw [h]
  · rename_i h
    rw [h]
    unfold partsU
    match dedK (sortP (keyT (flatT l))) with
    | [] => rfl
    | [p] => rfl
    | p :: q :: r => rfl

theorem flatT_mem {l : List TA} {x : TA} : x ∈ flatT l ↔ ∃ t ∈ l, x ∈ partsT t := by unfold flatT; rw [List.mem_flatMap]
theorem partsT_nt {t : TA} (h : NT t) : (∀ x ∈ partsT t, NT x ∧ x.kind ≠ 7) ∧ partsT t ≠ [] := by
  unfold partsT
  split
  · rename_i h7
    cases h with
    | uni l h2 h h7' hs => exact ⟨fun x hx => ⟨h x hx, (h7' x hx).1⟩, by rintro e; simp only [TA.l] at e; subst e; simp at h2⟩
    | _ => cases h7
  · rename_i h7
    exact ⟨fun x hx => by rw [List.mem_singleton] at hx; subst hx; exact ⟨h, h7⟩, by simp⟩
theorem flatT_nt {l : List TA} (h : ∀ t ∈ l, NT t) : ∀ x ∈ flatT l, NT x ∧ x.kind ≠ 7 := fun x hx => by
  obtain ⟨t, ht, hx⟩ := flatT_mem.1 hx
  exact (partsT_nt (h t ht)).1 x hx
theorem flatT_ne {l : List TA} (h : ∀ t ∈ l, NT t) (h0 : l ≠ []) : flatT l ≠ [] := by
  cases l with
  | nil => exact absurd rfl h0
  | cons t l =>
    have := (partsT_nt (h t (by simp))).2
    cases hp : partsT t with
    | nil => exact absurd hp this
    | cons x xs =>
      intro e
      have : x ∈ flatT (t :: l) := flatT_mem.2 ⟨t, by simp, by rw [hp]; simp⟩
      rw [e] at this; cases this

theorem unionP_nt {l : List TA} (h0 : l ≠ []) (h : ∀ t ∈ l, NT t ∧ t.kind ≠ 7 ∧ t.kind ≠ 4) (hs : l.Pairwise fun a b => prT a 0 < prT b 0) : NT (unionP l) := by
  match l, h0 with
  | [t], _ => exact (h t (by simp)).1
  | t :: u :: l, _ => exact .uni _ (by simp) (fun x hx => (h x hx).1) (fun x hx => (h x hx).2) hs
theorem unionT_nt {l : List TA} (h : ∀ t ∈ l, NT t) (h0 : l ≠ []) : NT (unionT l) := by
  rw [unionT_eq]
  have hf := flatT_nt h
  cases hd : (flatT l).find? (fun t => t.kind == 4) with
  | some t => exact (hf t (List.mem_of_find?_eq_some hd)).1
  | none =>
    refine unionP_nt (partsU_ne (flatT_ne h h0)) (fun t ht => ?_) (partsU_sorted _)
    have hm := partsU_mem ht
    exact ⟨(hf t hm).1, (hf t hm).2, by have := List.find?_eq_none.1 hd t hm; simpa using this⟩

theorem normT_nt {t : TA} (h : GT t) : NT (normT t) := by
  induction h with
  | int => rw [normT, if_neg (by decide), normL]; exact .int
  | bool => rw [normT, if_neg (by decide), normL]; exact .bool
  | text => rw [normT, if_neg (by decide), normL]; exact .text
  | dyn => rw [normT, if_neg (by decide), normL]; exact .dyn
  | ref nm hn => rw [normT, if_neg (by decide), normL]; exact .ref nm hn
  | rcd ns l hs hl hn h ih =>
    rw [normT, if_neg (by decide), normL_map]
    refine .rcd ns _ hs (by rw [List.length_map]; exact hl) hn fun x hx => ?_
    obtain ⟨t, ht, rfl⟩ := List.mem_map.1 hx
    exact ih t ht
  | fn a b ha hb iha ihb => rw [normT, if_neg (by decide), normL_map]; exact .fn _ _ iha ihb
  | uni l h0 h ih =>
    rw [normT, if_pos rfl, normL_map]
    refine unionT_nt (fun x hx => ?_) (by simpa using h0)
    obtain ⟨t, ht, rfl⟩ := List.mem_map.1 hx
    exact ih t ht

theorem insertSorted_id {l : List TA} (hs : l.Pairwise fun a b => prT a 0 < prT b 0) : dedK (sortP (keyT l)) = keyT l := by
  have h1 : sortP (keyT l) = keyT l := by
    have hsl : (keyT l).Pairwise fun a b => a.2 ≤ b.2 := by
      unfold keyT
      rw [List.pairwise_map]
      exact hs.imp fun h => List.le_of_lt h
    exact (sortP_unique (List.Perm.refl _) hsl fun a ha b hb e => by
      obtain ⟨t, ht, rfl⟩ := List.mem_map.1 ha
      obtain ⟨u, hu, rfl⟩ := List.mem_map.1 hb
      obtain ⟨i, hi, rfl⟩ := List.getElem_of_mem ht
      obtain ⟨j, hj, rfl⟩ := List.getElem_of_mem hu
      have hp := List.pairwise_iff_getElem.1 hs
      rcases Nat.lt_trichotomy i j with h | h | h
      · have := hp i j hi hj h
        dsimp only at e
        rw [e] at this; exact absurd this (List.lt_irrefl _)
      · subst h; rfl
      · have := hp j i hj hi h
        dsimp only at e
        rw [e] at this; exact absurd this (List.lt_irrefl _)).symm
  rw [h1]
  have key : ∀ (l : List TA) (p : Bytes), (∀ t ∈ l, p < prT t 0) → l.Pairwise (fun a b => prT a 0 < prT b 0) → dedGo p (keyT l) = keyT l := by
    intro l
    induction l with
    | nil => intro p _ _; simp [keyT, dedGo]
    | cons t l ih =>
      intro p hp hs
      obtain ⟨k1, k2⟩ := List.pairwise_cons.1 hs
      have h2 := ih (prT t 0) k1 k2
      unfold keyT at h2 ⊢
      rw [List.map_cons, dedGo, if_neg, h2]
      have := hp t (by simp)
      simp only [beq_iff_eq]
      rintro e
      rw [e] at this; exact List.lt_irrefl _ this
  cases l with
  | nil => simp [keyT, dedK]
  | cons t l =>
    obtain ⟨k1, k2⟩ := List.pairwise_cons.1 hs
    have := key l (prT t 0) k1 k2
    unfold keyT at this ⊢
    rw [List.map_cons, dedK, this]

theorem flatT_id {l : List TA} (h : ∀ t ∈ l, t.kind ≠ 7) : flatT l = l := by
  induction l with
  | nil => rfl
  | cons t l ih =>
    have := ih fun x hx => h x (by simp [hx])
    unfold flatT at this ⊢
    rw [List.flatMap_cons, this]
    unfold partsT
    rw [if_neg (h t (by simp))]
    rfl

theorem normT_id {t : TA} (h : NT t) : normT t = t := by
  induction h with
  | int => rw [normT, if_neg (by decide), normL]
  | bool => rw [normT, if_neg (by decide), normL]
  | text => rw [normT, if_neg (by decide), normL]
  | dyn => rw [normT, if_neg (by decide), normL]
  | ref nm hn => rw [normT, if_neg (by decide), normL]
  | rcd ns l hs hl hn h ih =>
    rw [normT, if_neg (by decide), normL_map]
    congr 1
    exact (List.map_congr_left (g := id) ih).trans (List.map_id l)
  | fn a b ha hb iha ihb => rw [normT, if_neg (by decide), normL_map]; simp [iha, ihb]
  | uni l h2 h h7 hs ih =>
    have e1 : l.map normT = l := (List.map_congr_left (g := id) ih).trans (List.map_id l)
    rw [normT, if_pos rfl, normL_map, e1, unionT_eq, flatT_id fun t ht => (h7 t ht).1]
    have e2 : l.find? (fun t => t.kind == 4) = none := List.find?_eq_none.2 fun t ht => by have := (h7 t ht).2; simpa using this
    rw [e2]
    have e3 : partsU l = l := by
      unfold partsU
      rw [insertSorted_id hs]
      unfold keyT
      rw [List.map_map]
      exact (List.map_congr_left (g := id) fun x _ => rfl).trans (List.map_id l)
    dsimp only
    rw [e3]
    match l, h2 with
    | t :: u :: l, _ => rfl

end Go.Ag

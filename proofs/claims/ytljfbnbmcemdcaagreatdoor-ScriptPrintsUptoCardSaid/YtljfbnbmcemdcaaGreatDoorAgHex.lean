/- The document's Hex: a row of bytes that is made and written. -/
import Derived.Test.YtljfbnbmcemdcaaGreatDoorAgPrA
set_option linter.unusedVariables false
namespace Go.Ag
open Go

/-- cupel/cupelref21.Hex -/
def c_18 : AFunc := (.mk 1 41 [(.tmp 2)] (.seq (.ops [(.mk (some 2) (.mv (.const (.str []))) none)]) (.seq (.seq (.ops [(.mk (some 6) (.mv (.tmp 0)) none), (.mk (some 7) (.bin .eql (.tmp 6) (.const (.str []))) none)]) (.cond (.tmp 7) (.seq (.ops [(.mk (some 2) (.mv (.const (.str [45]))) none)]) .ret) .skip)) (.seq (.ops [(.mk (some 3) (.mv (.const (.str [48, 49, 50, 51, 52, 53, 54, 55, 56, 57, 97, 98, 99, 100, 101, 102]))) none)]) (.seq (.ops [(.mk (some 8) (.mv (.tmp 0)) none), (.mk (some 9) (.lenS (.tmp 8)) none), (.mk (some 10) (.bin .mul (.const (.int .i64 2)) (.tmp 9)) none), (.mk (some 11) (.make (.int .u8 0) 6 (.tmp 10)) none), (.mk (some 4) (.mv (.tmp 11)) none)]) (.seq (.seq (.ops [(.mk (some 5) (.mv (.const (.int .i64 0))) none)]) (.block 0 (.loop (.seq (.seq (.ops [(.mk (some 12) (.mv (.tmp 5)) none), (.mk (some 13) (.mv (.tmp 0)) none), (.mk (some 14) (.lenS (.tmp 13)) none), (.mk (some 15) (.bin .lss (.tmp 12) (.tmp 14)) none)]) (.cond (.tmp 15) .skip (.exit 0))) (.seq (.block 1 (.seq (.ops [(.mk (some 18) (.mv (.tmp 4)) none), (.mk (some 19) (.mv (.tmp 5)) none), (.mk (some 20) (.bin .mul (.const (.int .i64 2)) (.tmp 19)) none), (.mk (some 21) (.mv (.tmp 3)) none), (.mk (some 22) (.mv (.tmp 0)) none), (.mk (some 23) (.mv (.tmp 5)) none), (.mk (some 24) (.idxS (.tmp 22) (.tmp 23)) none), (.mk (some 25) (.bin .quo (.tmp 24) (.const (.int .u8 16))) none), (.mk (some 26) (.idxS (.tmp 21) (.tmp 25)) none), (.mk (some 27) (.iaddr 1 (.tmp 18) (.tmp 20)) none), (.mk none (.store 1 (.tmp 27) (.tmp 26)) none)]) (.ops [(.mk (some 28) (.mv (.tmp 4)) none), (.mk (some 29) (.mv (.tmp 5)) none), (.mk (some 30) (.bin .mul (.const (.int .i64 2)) (.tmp 29)) none), (.mk (some 31) (.bin .add (.tmp 30) (.const (.int .i64 1))) none), (.mk (some 32) (.mv (.tmp 3)) none), (.mk (some 33) (.mv (.tmp 0)) none), (.mk (some 34) (.mv (.tmp 5)) none), (.mk (some 35) (.idxS (.tmp 33) (.tmp 34)) none), (.mk (some 36) (.bin .rem (.tmp 35) (.const (.int .u8 16))) none), (.mk (some 37) (.idxS (.tmp 32) (.tmp 36)) none), (.mk (some 38) (.iaddr 1 (.tmp 28) (.tmp 31)) none), (.mk none (.store 1 (.tmp 38) (.tmp 37)) none)]))) (.ops [(.mk (some 16) (.mv (.tmp 5)) none), (.mk (some 17) (.bin .add (.tmp 16) (.const (.int .i64 1))) none), (.mk (some 5) (.mv (.tmp 17)) none)])))))) (.seq (.ops [(.mk (some 39) (.mv (.tmp 4)) none), (.mk (some 40) (.convA2S (.tmp 39)) none), (.mk (some 2) (.mv (.tmp 40)) none)]) .ret)))))))
variable {T : Tab} {L : Lnk}

theorem quo16 : ∀ n : Fin 256, IntKind.u8.wrap ((((n.val : Nat) : Int)).tdiv 16) = ((n.val / 16 : Nat) : Int) := by decide +kernel
theorem step_storeG {H H' : Heap} {k : Nat} {a x : AVal} {P : Heap → Prop} (h : storeAt H k a x = some H') (hp : P H') : (match storeAt H k a x with
    | some H' => P H'
    | none => False) := by rw [h]; exact hp

theorem step_row {C C1 : List AVal} {t off : Nat} {x : AVal} {P : Heap → Prop} (hC : C.take off ++ x.cells ++ C.drop (off + 1) = C1) (hx : x.cells.length = 1) (hk : off + 1 ≤ C.length) (hp : P [.cells C1 t]) :
    (match storeAt [.cells C t] 1 (.ptr 0 off) x with
    | some H' => P H'
    | none => False) := by
  rw [store_at (H := [.cells C t]) (id := 0) rfl hx hk, hC]
  exact hp

theorem put_next (X : List AVal) (z d : AVal) (m : Nat) {n : Nat} (hn : X.length = n) : (X ++ List.replicate (m + 1) z).take n ++ [d] ++ (X ++ List.replicate (m + 1) z).drop (n + 1) = (X ++ [d]) ++ List.replicate m z := by
  subst hn
  rw [List.take_left, List.drop_append]
  simp [List.replicate_succ]

theorem hex18_spec (h18 : T.has 18 c_18) (s : List UInt8) (hs : s.length ≤ 300) : Pure T.L 18 [.str s] (.str (hexA s)) := by
  refine Pure.run (low1 (.str _)) (.str _) (acallsG h18 (by simp [c_18]) ?_)
  conv => whnf
  cases he : (s == [])
  · have hne : s ≠ [] := fun e0 => by subst e0; cases he
    conv => whnf
    have hw : IntKind.i64.wrap (2 * ((s.length : Nat) : Int)) = ((2 * s.length : Nat) : Int) := by rw [IntWalk.i64_in _ (by omega)]; omega
    rw [hw]
    refine ⟨⟨by omega, by omega⟩, ?_⟩
    conv => whnf
    intro I hI hG
    have key : ∀ (d k : Nat) (e : Env), s.length - k = d → k ≤ s.length → I (setL e [(0, .str s), (3, .str digitsA), (4, .arr 0 1 0 (2 * s.length)), (5, .int .i64 k)]) [.cells (byteL (hexRaw (s.take k)) ++ List.replicate (2 * (s.length - k)) (.int .u8 0)) 6] := by
      intro d
      induction d with
      | zero =>
        intro k e hd hk
        obtain rfl : k = s.length := by omega
        apply hI
        conv => whnf
        rw [lt_false (Nat.le_refl _)]
        conv => whnf
        rw [List.take_length, Nat.sub_self]
        have hl : (byteL (hexRaw s)).length = 2 * s.length := by rw [byteL_len, hexRaw_len]
        refine ⟨by simp [hl], ?_⟩
        rw [show ((byteL (hexRaw s) ++ List.replicate (2 * 0) (AVal.int .u8 0)).drop 0).take (2 * s.length) = byteL (hexRaw s) from by rw [List.drop_zero, Nat.mul_zero, List.replicate_zero, List.append_nil, ← hl, List.take_length], bytesA_of]
        conv => whnf
        rw [hexA, if_neg hne]
        exact ret_weak (Weak.refl _)
      | succ d ih =>
        intro k e hd hk
        have hlt : k < s.length := by omega
        have hc := s[k].toNat_lt
        have hl : (byteL (hexRaw (s.take k))).length = 2 * k := by rw [byteL_len, hexRaw_len, List.length_take]; omega
        have hm : 2 * (s.length - k) = 2 * (s.length - (k + 1)) + 1 + 1 := by omega
        have w1 : IntKind.i64.wrap (2 * ((k : Nat) : Int)) = ((2 * k : Nat) : Int) := by rw [IntWalk.i64_in _ (by omega)]; omega
        have w2 : IntKind.i64.wrap (((2 * k : Nat) : Int) + 1) = ((2 * k + 1 : Nat) : Int) := by rw [IntWalk.i64_in _ (by omega)]; omega
        apply hI
        rw [hm]
        conv => whnf
        rw [lt_true hlt]
        conv => whnf
        refine step_at hlt ?_
        conv => whnf
        have q1 := quo16 ⟨s[k].toNat, hc⟩
        dsimp only at q1
        rw [q1]
        refine step_idx (by omega) (c := digitA (s[k].toNat / 16)) (digit_at (by omega)) ?_
        conv => whnf
        rw [w1]
        refine ⟨⟨by omega, by omega, rfl, rfl⟩, ?_⟩
        conv => whnf
        have ez : ∀ n : Nat, 0 + ((n : Nat) : Int).toNat = n := fun n => by simp
        refine step_row (C1 := (byteL (hexRaw (s.take k)) ++ [.int .u8 (digitA (s[k].toNat / 16)).toNat]) ++ List.replicate (2 * (s.length - (k + 1)) + 1) (.int .u8 0)) (by rw [ez]; exact put_next _ _ _ _ hl) rfl (by rw [ez]; simp [hl]) ?_
        conv => whnf
        refine step_at hlt ?_
        conv => whnf
        rw [show (((s[k].toNat : Nat) : Int)).tmod 16 = ((s[k].toNat % 16 : Nat) : Int) from by rw [Int.tmod_eq_emod_of_nonneg (by omega)]; omega]
        refine step_idx (by omega) (c := digitA (s[k].toNat % 16)) (digit_at (by omega)) ?_
        conv => whnf
        rw [w1, w2]
        refine ⟨⟨by omega, by omega, rfl, rfl⟩, ?_⟩
        conv => whnf
        refine step_row (C1 := ((byteL (hexRaw (s.take k)) ++ [.int .u8 (digitA (s[k].toNat / 16)).toNat]) ++ [.int .u8 (digitA (s[k].toNat % 16)).toNat]) ++ List.replicate (2 * (s.length - (k + 1))) (.int .u8 0)) (by rw [ez]; exact put_next _ _ _ _ (by simp [hl])) rfl (by rw [ez]; simp only [List.length_append, List.length_replicate, List.length_cons, List.length_nil, hl]; omega) ?_
        conv => whnf
        have hnext := fun e => ih (k + 1) e (by omega) (by omega)
        rw [hexRaw_succ hlt, byteL_app, byteL_app] at hnext
        exact inv_of [(0, .str s), (3, .str digitsA), (4, .arr 0 1 0 (2 * s.length)), (5, .int .i64 ((k + 1 : Nat) : Int))] ⟨rfl, rfl, rfl, add1 (by omega), trivial⟩ (hnext _)
    exact inv_of [(0, .str s), (3, .str digitsA), (4, .arr 0 1 0 (2 * s.length)), (5, .int .i64 0)] ⟨rfl, rfl, rfl, rfl, trivial⟩ (key s.length 0 _ rfl (by omega))
  · have e0 : s = [] := by simpa using he
    subst e0
    conv => whnf
    exact ret_weak (Weak.refl _)

end Go.Ag

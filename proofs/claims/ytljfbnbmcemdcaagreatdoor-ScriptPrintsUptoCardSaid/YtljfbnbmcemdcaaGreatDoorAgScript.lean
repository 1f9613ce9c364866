/- Package script: what its functions compute. -/
import Derived.Test.YtljfbnbmcemdcaaGreatDoorAgBld
import Derived.Test.YtljfbnbmcemdcaaGreatDoorAgCScript
import Derived.Test.YtljfbnbmcemdcaaGreatDoorAgPure
set_option linter.unusedVariables false
namespace Go.Ag
open Go

variable {T : Tab} {L : Lnk}

def strs (l : List (List UInt8)) : List AVal := l.map .str

def namesA : List (List UInt8) := [[112, 117, 116], [100, 114, 111, 112], [98, 117, 100, 103, 101, 116], [100, 105, 97, 103, 115], [99, 97, 115, 116, 115], [101, 120, 112, 111, 114, 116, 115], [97, 108, 108]]

theorem low_str (n : Nat) (l : List (List UInt8)) : ∀ x ∈ strs l, Low n x := fun x hx => by
  simp only [strs, List.mem_map] at hx
  obtain ⟨s, _, rfl⟩ := hx
  exact .str s
theorem low_strs (n : Nat) (l : List (List UInt8)) : Low n (.lst (strs l) .none) := .lst _ _ trivial (low_str n l)

theorem names_spec (h29 : T.has 29 c_29) : Pure T.L 29 [] (.lst (strs namesA) .none) := fun H => by
  refine ACalls.pure (acallsF h29 (by simp [c_29]) ?_) (low_strs _ _)
  conv => whnf
  refine ⟨fun p hp => ?_, ?_⟩
  · simp only [List.mem_cons, List.not_mem_nil, or_false] at hp
    rcases hp with rfl | rfl | rfl | rfl | rfl | rfl | rfl <;> exact ⟨rfl, rfl⟩
  conv => whnf
  exact ⟨[], _, by simp, rfl, Weak.tok _ _⟩

/-! hex -/
def digitsA : List UInt8 := [48, 49, 50, 51, 52, 53, 54, 55, 56, 57, 97, 98, 99, 100, 101, 102]
def digitA (n : Nat) : UInt8 := digitsA.getD n 0
def hexRaw (s : List UInt8) : List UInt8 := s.flatMap fun c => [digitA (c.toNat / 16), digitA (c.toNat % 16)]
def hexA (s : List UInt8) : List UInt8 := if s = [] then [45] else hexRaw s

theorem shr4 (n : Nat) : ((n : Nat) : Int).fdiv (2 ^ (min (4 : Int).toNat IntKind.u8.bits)) = ((n / 16 : Nat) : Int) := by
  rw [show (2 ^ (min (4 : Int).toNat IntKind.u8.bits) : Int) = 16 from by decide, Int.fdiv_eq_ediv_of_nonneg _ (by omega)]
  omega
theorem and15 : ∀ n : Fin 256, IntKind.u8.wrap ((BitVec.ofInt IntKind.u8.bits ((n.val : Nat) : Int) &&& BitVec.ofInt IntKind.u8.bits 15).toNat : Int) = ((n.val % 16 : Nat) : Int) := by decide +kernel
theorem digit_at {n : Nat} (h : n < 16) : digitsA[(((n : Nat) : Int)).toNat]? = some (digitA n) := by
  have h1 : n < digitsA.length := h
  rw [Int.toNat_natCast, List.getElem?_eq_getElem h1, digitA, List.getD_eq_getElem?_getD, List.getElem?_eq_getElem h1]
  rfl
theorem hexRaw_succ {s : List UInt8} {k : Nat} (h : k < s.length) : hexRaw (s.take (k + 1)) = (hexRaw (s.take k) ++ [digitA (s[k].toNat / 16)]) ++ [digitA (s[k].toNat % 16)] := by
  rw [List.take_succ_eq_append_getElem h, hexRaw, List.flatMap_append]
  simp [hexRaw]
theorem hexRaw_len (s : List UInt8) : (hexRaw s).length = 2 * s.length := by
  induction s with
  | nil => rfl
  | cons c s ih => simp only [hexRaw, List.flatMap_cons, List.length_append] at ih ⊢; rw [ih]; simp; omega

theorem step_idx {s : List UInt8} {n : Int} {c : UInt8} {P : UInt8 → Prop} (h0 : 0 ≤ n) (h : s[n.toNat]? = some c) (hp : P c) : 0 ≤ n ∧ (match s[n.toNat]? with
    | some c => P c
    | none => False) := ⟨h0, by rw [h]; exact hp⟩

theorem hex_spec (h33 : T.has 33 c_33) (h51 : T.has 51 c_51) (h21 : T.has 21 c_21) (B : BldLib T.L) (s : List UInt8) (hs : s.length ≤ 2 ^ 40) : Pure T.L 33 [.str s] (.str (hexA s)) := fun H => by
  refine ACalls.pure (acallsF h33 (by simp [c_33]) ?_) (.str _)
  conv => whnf
  cases he : (s == [])
  · conv => whnf
    intro I hI hG
    have hne : s ≠ [] := fun e0 => by subst e0; cases he
    have key : ∀ (d k : Nat) (e : Env) (H1 : Heap), s.length - k = d → k ≤ s.length → Keep H.length H H1 → BldAt H.length H1 H.length (hexRaw (s.take k)) → I (setL e [(0, .str s), (3, .ptr H.length 0), (8, .int .i64 s.length), (9, .int .i64 k)]) H1 := by
      intro d
      induction d with
      | zero =>
        intro k e H1 hd hk hkeep hb
        obtain rfl : k = s.length := by omega
        apply hI
        conv => whnf
        rw [show decide ((s.length : Int) < s.length) = false from by simp]
        conv => whnf
        rw [List.take_length] at hb
        refine (String_spec h21 (by rw [hexRaw_len]; omega) hkeep.1 hb).mono fun r H2 ⟨e1, hk2⟩ => ?_
        subst e1
        conv => whnf
        obtain ⟨J, hJ⟩ := (hkeep.trans hk2).ext
        exact ⟨J, _, hJ, rfl, by rw [hexA, if_neg hne]; exact Weak.refl _⟩
      | succ d ih =>
        intro k e H1 hd hk hkeep hb
        have hlt : k < s.length := by omega
        have hget : s[((k : Nat) : Int).toNat]? = some s[k] := by simp [hlt]
        have hc := s[k].toNat_lt
        apply hI
        conv => whnf
        rw [show decide ((k : Int) < s.length) = true from by simp; omega]
        conv => whnf
        refine step_idx (by omega) hget ?_
        conv => whnf
        refine step_idx (by
          rw [shr4 s[k].toNat]; omega) (c := digitA (s[k].toNat / 16)) (by
          rw [shr4 s[k].toNat]; exact digit_at (by show s[k].toNat / 16 < 16; omega)) ?_
        conv => whnf
        refine (WriteByte_spec h51 B (digitA (s[k].toNat / 16)) (by rw [hexRaw_len, List.length_take]; omega) hkeep.1 hb).mono fun r H2 ⟨e1, hk2, hb2⟩ => ?_
        subst e1
        conv => whnf
        refine step_idx (by omega) hget ?_
        conv => whnf
        refine step_idx (by
          show 0 ≤ IntKind.u8.wrap _
          rw [and15 ⟨s[k].toNat, hc⟩]; omega) (c := digitA (s[k].toNat % 16)) (by
          show digitsA[(IntKind.u8.wrap _).toNat]? = _
          rw [and15 ⟨s[k].toNat, hc⟩]; exact digit_at (by show s[k].toNat % 16 < 16; omega)) ?_
        conv => whnf
        have hkk := hkeep.trans hk2
        refine (WriteByte_spec h51 B (digitA (s[k].toNat % 16)) (by rw [List.length_append, hexRaw_len, List.length_take]; simp; omega) hkk.1 hb2).mono fun r H3 ⟨e1, hk3, hb3⟩ => ?_
        subst e1
        conv => whnf
        refine inv_of [(0, .str s), (3, .ptr H.length 0), (8, .int .i64 s.length), (9, .int .i64 ((k + 1 : Nat) : Int))] ⟨rfl, rfl, rfl, add1 (by omega), trivial⟩ (ih (k + 1) _ H3 (by omega) (by omega) (hkk.trans hk3) ?_)
        rw [hexRaw_succ hlt]
        exact hb3
    have hd0 : digitsA = digitsA := rfl
    refine inv_of [(0, .str s), (3, .ptr H.length 0), (8, .int .i64 s.length), (9, .int .i64 ((0 : Nat) : Int))] ⟨rfl, rfl, rfl, rfl, trivial⟩ (key s.length 0 _ _ (by omega) (by omega) (Keep.push (Nat.le_refl _) _) ?_)
    exact ⟨Nat.le_refl _, _, _, get_new _ _, .inl rfl, .inl ⟨rfl, rfl⟩⟩
  · have : s = [] := by simpa using he
    subst this
    conv => whnf
    exact ⟨[], _, by simp, rfl, Weak.refl _⟩


/-- The library's part. -/
structure ScriptLib (L : Lnk) where
  bld : BldLib L
  idxD : UInt8 → Int
  itoaA : Int → List UInt8
  atoiA : List UInt8 → Int × Bool
  errT : Nat
  indexByte : ∀ c : UInt8, Pure L 49 [.str digitsA, .int .u8 c.toNat] (.int .i64 (idxD c))
  idxD_range : ∀ c, -1 ≤ idxD c ∧ idxD c < 16
  idxD_low : ∀ n, n < 16 → idxD (digitA n) = n

def bareGo (I : UInt8 → Int) : List UInt8 → Option (List UInt8)
  | a :: b :: t => if I a < 0 ∨ I b < 0 then none else (bareGo I t).map (UInt8.ofNat (I a * 16 + I b).toNat :: ·)
  | _ => some []
def bareA (I : UInt8 → Int) (s : List UInt8) : List UInt8 × Bool :=
  if s = [45] then ([], true) else if s.length % 2 = 1 then ([], false) else match bareGo I s with
    | some t => (t, true)
    | none => ([], false)

theorem byte_make : ∀ a b : Fin 16, (IntKind.u8.wrap (IntKind.i64.wrap ((BitVec.ofInt IntKind.i64.bits (IntKind.i64.wrap (((a.val : Nat) : Int) * 2 ^ (min (4 : Int).toNat IntKind.i64.bits))) ||| BitVec.ofInt IntKind.i64.bits ((b.val : Nat) : Int)).toNat : Int))) = ((UInt8.ofNat (((a.val : Nat) : Int) * 16 + ((b.val : Nat) : Int)).toNat).toNat : Int) := by decide +kernel

set_option maxHeartbeats 4000000 in
theorem bare_spec (Y : ScriptLib T.L) (h31 : T.has 31 c_31) (s : List UInt8) (hs : s.length ≤ 2 ^ 40) : Pure T.L 31 [.str s] (.tup [.str (bareA Y.idxD s).1, .bool (bareA Y.idxD s).2]) := fun H => by
  refine ACalls.pure (acallsF h31 (by simp [c_31]) ?_) (.tup _ fun x hx => by simp only [List.mem_cons, List.not_mem_nil, or_false] at hx; rcases hx with rfl | rfl <;> constructor)
  conv => whnf
  cases he : (s == [45])
  · have hne : s ≠ [45] := fun e0 => by subst e0; cases he
    conv => whnf
    cases ho : (((s.length : Nat) : Int).tmod 2 == 1)
    · have hev : s.length % 2 = 0 := by
        have : ¬ ((s.length : Nat) : Int).tmod 2 = 1 := by simpa using ho
        rw [Int.tmod_eq_emod_of_nonneg (by omega)] at this
        omega
      obtain ⟨h, hh⟩ : ∃ h, s.length = 2 * h := ⟨s.length / 2, by omega⟩
      conv => whnf
      intro I hI hG
      have key : ∀ (d k : Nat) (e : Env) (H1 : Heap) (done : List UInt8) (tk : Tok), h - k = d → k ≤ h → Keep H.length H H1 → Acc H.length H1 (byteL done) 6 tk → done.length = k →
          bareA Y.idxD s = (match bareGo Y.idxD (s.drop (2 * k)) with | some t => (done ++ t, true) | none => ([], false)) →
          I (setL e [(0, .str s), (4, .lst (byteL done) tk), (5, .int .i64 ((2 * k : Nat) : Int))]) H1 := by
        intro d
        induction d with
        | zero =>
          intro k e H1 done tk hd hk hkeep ha hdl hb
          obtain rfl : k = h := by omega
          apply hI
          conv => whnf
          rw [show decide (((2 * k : Nat) : Int) < s.length) = false from by simp; omega]
          conv => whnf
          rw [bytesA_of]
          conv => whnf
          obtain ⟨J, hJ⟩ := hkeep.ext
          refine ⟨J, _, hJ, rfl, ?_⟩
          rw [← hh, List.drop_length] at hb
          rw [hb]
          simp only [bareGo, List.append_nil]
          exact Weak.refl _
        | succ d ih =>
          intro k e H1 done tk hd hk hkeep ha hdl hb
          have h0 : 2 * k < s.length := by omega
          have h1 : 2 * k + 1 < s.length := by omega
          have hw : IntKind.i64.wrap (((2 * k : Nat) : Int) + 1) = ((2 * k + 1 : Nat) : Int) := by rw [IntWalk.i64_in _ (by omega)]; omega
          have hw2 : IntKind.i64.wrap (((2 * k : Nat) : Int) + 2) = ((2 * (k + 1) : Nat) : Int) := by rw [IntWalk.i64_in _ (by omega)]; omega
          have hdrop : s.drop (2 * k) = s[2 * k] :: s[2 * k + 1] :: s.drop (2 * (k + 1)) := by
            rw [List.drop_eq_getElem_cons h0, List.drop_eq_getElem_cons h1]
            rfl
          rw [hdrop] at hb
          apply hI
          conv => whnf
          rw [show decide (((2 * k : Nat) : Int) < s.length) = true from by simp; omega]
          conv => whnf
          refine step_idx (by omega) (c := s[2 * k]) (by rw [Int.toNat_natCast]; exact List.getElem?_eq_getElem h0) ?_
          conv => whnf
          refine step_idx (c := s[2 * k + 1]) ?_ ?_ ?_
          · rw [hw]; omega
          · rw [hw, Int.toNat_natCast]; exact List.getElem?_eq_getElem h1
          conv => whnf
          refine (Y.indexByte s[2 * k] H1).mono fun r H2 ⟨e1, e2⟩ => ?_
          subst e1 e2
          conv => whnf
          refine (Y.indexByte s[2 * k + 1] H2).mono fun r H3 ⟨e1, e2⟩ => ?_
          subst e1 e2
          conv => whnf
          have r1 := Y.idxD_range s[2 * k]
          have r2 := Y.idxD_range s[2 * k + 1]
          have bad : (Y.idxD s[2 * k] < 0 ∨ Y.idxD s[2 * k + 1] < 0) → bareA Y.idxD s = ([], false) := fun hbad => by
            rw [hb, bareGo, if_pos hbad]
          cases ha1 : decide (Y.idxD s[2 * k] < 0)
          · conv => whnf
            cases ha2 : decide (Y.idxD s[2 * k + 1] < 0)
            · conv => whnf
              have n1 : ¬ (Y.idxD s[2 * k] < 0 ∨ Y.idxD s[2 * k + 1] < 0) := by simp at ha1 ha2; omega
              have hbm := byte_make ⟨(Y.idxD s[2 * k]).toNat, by omega⟩ ⟨(Y.idxD s[2 * k + 1]).toNat, by omega⟩
              dsimp only at hbm
              rw [Int.toNat_of_nonneg (by omega), Int.toNat_of_nonneg (by omega)] at hbm
              refine ⟨fun p hp => ?_, ?_⟩
              · simp only [List.mem_singleton] at hp; subst hp; exact ⟨rfl, rfl⟩
              conv => whnf
              refine app_acc (n := H.length) (xs := byteL done) (byteL_sized done) (fun x hx => by simp only [List.mem_singleton] at hx; subst hx; exact ⟨rfl, rfl⟩) (by rw [byteL_len]; simp; omega) (by rw [byteL_len]; simp; omega) (by simp) hkeep.1 ha fun tk' H3 hg ha' => ?_
              conv => whnf
              have hnew : byteL (done ++ [UInt8.ofNat (Y.idxD s[2 * k] * 16 + Y.idxD s[2 * k + 1]).toNat]) = byteL done ++ [.int .u8 (IntKind.u8.wrap (IntKind.i64.wrap ((BitVec.ofInt IntKind.i64.bits (IntKind.i64.wrap (Y.idxD s[2 * k] * 2 ^ (min (4 : Int).toNat IntKind.i64.bits))) ||| BitVec.ofInt IntKind.i64.bits (Y.idxD s[2 * k + 1])).toNat : Int)))] := by
                rw [byteL_app, hbm]; rfl
              refine inv_of [(0, .str s), (4, .lst (byteL (done ++ [UInt8.ofNat (Y.idxD s[2 * k] * 16 + Y.idxD s[2 * k + 1]).toNat])) tk'), (5, .int .i64 ((2 * (k + 1) : Nat) : Int))] ⟨rfl, ?_, ?_, trivial⟩ (ih (k + 1) _ H3 _ tk' (by omega) (by omega) (hkeep.trans hg.1) ?_ (by simp [hdl]) ?_)
              · rw [hnew]; rfl
              · exact congrArg (AVal.int .i64) hw2
              · rw [hnew]; exact ha'
              · rw [hb, bareGo, if_neg n1]
                cases bareGo Y.idxD (s.drop (2 * (k + 1))) <;> simp
            · conv => whnf
              obtain ⟨J, hJ⟩ := hkeep.ext
              exact ⟨J, _, hJ, rfl, by rw [bad (.inr (by simpa using ha2))]; exact Weak.refl _⟩
          · conv => whnf
            obtain ⟨J, hJ⟩ := hkeep.ext
            exact ⟨J, _, hJ, rfl, by rw [bad (.inl (by simpa using ha1))]; exact Weak.refl _⟩
      refine inv_of [(0, .str s), (4, .lst (byteL []) .nil), (5, .int .i64 ((2 * 0 : Nat) : Int))] ⟨rfl, rfl, rfl, trivial⟩ (key h 0 _ _ [] .nil (by omega) (by omega) (Keep.refl _ _) (.inl ⟨rfl, rfl⟩) rfl ?_)
      rw [bareA, if_neg hne, if_neg (by omega)]
      rfl
    · have hod : s.length % 2 = 1 := by
        have : ((s.length : Nat) : Int).tmod 2 = 1 := by simpa using ho
        rw [Int.tmod_eq_emod_of_nonneg (by omega)] at this
        omega
      conv => whnf
      exact ⟨[], _, by simp, rfl, by rw [bareA, if_neg hne, if_pos hod]; exact Weak.refl _⟩
  · have : s = [45] := by simpa using he
    subst this
    conv => whnf
    exact ⟨[], _, by simp, rfl, Weak.refl _⟩

end Go.Ag

/- The document's lines of steps: Digits, Num, named, Right, Line. -/
import Derived.Test.YtljfbnbmcemdcaaGreatDoorAgRefG
import Derived.Test.YtljfbnbmcemdcaaGreatDoorAgScript7
set_option linter.unusedVariables false
namespace Go.Ag
open Go

variable {T : Tab} {L : Lnk}

theorem dec_step {u : Nat} (h : ¬ u < 10) : Lib.decDigits u = Lib.decDigits (u / 10) ++ Lib.decDigits (u % 10) := by
  rw [Lib.decDigits, dif_neg h, Lib.decDigits_one (Nat.mod_lt _ (by omega))]
theorem dec_len (u : Nat) : ∀ m, u < 10 ^ (m + 1) → (Lib.decDigits u).length ≤ m + 1 := fun m => by
  induction m generalizing u with
  | zero => intro h; rw [Lib.decDigits_one (by simpa using h)]; simp
  | succ m ih =>
    intro h
    by_cases hu : u < 10
    · rw [Lib.decDigits_one hu]; simp
    · rw [dec_step hu, List.length_append, Lib.decDigits_one (Nat.mod_lt _ (by omega))]
      have := ih (u / 10) (by rw [Nat.div_lt_iff_lt_mul (by omega)]; rw [Nat.pow_succ] at h; exact h)
      simp; omega
theorem byteWrap : ∀ u : Fin 10, bytesA [.int .u8 (IntKind.u8.wrap (IntKind.i64.wrap (48 + ((u.val : Nat) : Int))))] = some (Lib.decDigits u.val) := by
  intro u
  rw [Lib.decDigits_one u.2]
  revert u
  decide +kernel

theorem digits_spec (h34 : T.has 34 c_34) : ∀ (b u : Nat), u < 10 ^ (b + 1) → b ≤ 18 → Pure T.L 34 [.int .i64 (u : Nat)] (.str (Lib.decDigits u)) := fun b => by
  induction b with
  | zero =>
    intro u hu hb
    refine Pure.run (low1 (.int _ _)) (.str _) (acallsG h34 (by simp [c_34]) ?_)
    conv => whnf
    rw [show decide (((u : Nat) : Int) > 9) = false from by simp; omega]
    conv => whnf
    rw [byteWrap ⟨u, by simpa using hu⟩]
    conv => whnf
    exact ret_weak (Weak.refl _)
  | succ b ih =>
    intro u hu hb
    by_cases h : u < 10
    · exact ih u (Nat.lt_of_lt_of_le h (Nat.le_self_pow (by omega) 10)) (by omega)
    · have hu' : u / 10 < 10 ^ (b + 1) := by rw [Nat.div_lt_iff_lt_mul (by omega)]; rw [Nat.pow_succ] at hu; exact hu
      have hbig : u < 10 ^ 20 := Nat.lt_of_lt_of_le hu (Nat.pow_le_pow_right (by omega) (by omega))
      have hl1 := dec_len (u / 10) b hu'
      have hl2 := dec_len (u % 10) 0 (by simpa using Nat.mod_lt u (by omega))
      refine Pure.run (low1 (.int _ _)) (.str _) (acallsG h34 (by simp [c_34]) ?_)
      conv => whnf
      rw [show decide (((u : Nat) : Int) > 9) = true from by simp; omega]
      conv => whnf
      have hu63 : u < 9223372036854775808 * 10 := by
        have h2 : u < 10 ^ 20 := hbig
        have h3 : b + 2 ≤ 19 := by omega
        have h4 : u < 10 ^ 19 := Nat.lt_of_lt_of_le hu (Nat.pow_le_pow_right (by omega) h3)
        omega
      rw [show IntKind.i64.wrap ((((u : Nat) : Int)).tdiv 10) = ((u / 10 : Nat) : Int) from by
        rw [Int.tdiv_eq_ediv_of_nonneg (by omega), IntWalk.i64_in _ (by omega)]; omega]
      refine (ih (u / 10) hu' (by omega)).to ?_
      conv => whnf
      rw [show (((u : Nat) : Int)).tmod 10 = ((u % 10 : Nat) : Int) from by rw [Int.tmod_eq_emod_of_nonneg (by omega)]; omega]
      refine (ih (u % 10) (Nat.lt_of_lt_of_le (Nat.mod_lt _ (by omega)) (Nat.le_self_pow (by omega) 10)) (by omega)).to ?_
      conv => whnf
      refine step_some (add_str (by omega)) ?_
      conv => whnf
      rw [← dec_step h]
      exact ret_weak (Weak.refl _)

theorem num_spec (h17 : T.has 17 c_17) (h34 : T.has 34 c_34) : ∀ (b : Nat) (n : Int), n.natAbs < 10 ^ (b + 1) → b ≤ 18 → -9223372036854775808 ≤ n → n ≤ 9223372036854775807 → Pure T.L 17 [.int .i64 n] (.str (Lib.itoa n)) := fun b => by
  induction b with
  | zero =>
    intro n hu hb h1 h2
    refine Pure.run (low1 (.int _ _)) (.str _) (acallsG h17 (by simp [c_17]) ?_)
    conv => whnf
    cases hn : decide (n ≥ 0)
    · have hneg : n < 0 := by simpa using hn
      have hs : n.natAbs < 10 := by simpa using hu
      conv => whnf
      rw [show decide (n < -9) = false from by simp; omega]
      conv => whnf
      rw [show IntKind.i64.wrap (0 - n) = ((n.natAbs : Nat) : Int) from by rw [IntWalk.i64_in _ (by omega)]; omega]
      refine (digits_spec h34 0 n.natAbs (by simpa using hs) (by omega)).to ?_
      conv => whnf
      refine step_some (add_str (by have := dec_len n.natAbs 0 (by simpa using hs); simp; omega)) ?_
      conv => whnf
      rw [Lib.itoa, if_pos hneg]
      exact ret_weak (Weak.refl _)
    · have hpos : 0 ≤ n := by simpa using hn
      conv => whnf
      rw [show n = ((n.toNat : Nat) : Int) from by omega]
      refine (digits_spec h34 18 n.toNat (by omega) (by omega)).to ?_
      conv => whnf
      rw [Lib.itoa, if_neg (by omega), Int.toNat_natCast]
      exact ret_weak (Weak.refl _)
  | succ b ih =>
    intro n hu hb h1 h2
    by_cases hs : n.natAbs < 10
    · exact ih n (Nat.lt_of_lt_of_le hs (Nat.le_self_pow (by omega) 10)) (by omega) h1 h2
    refine Pure.run (low1 (.int _ _)) (.str _) (acallsG h17 (by simp [c_17]) ?_)
    conv => whnf
    cases hn : decide (n ≥ 0)
    · have hneg : n < 0 := by simpa using hn
      conv => whnf
      rw [show decide (n < -9) = true from by simp; omega]
      conv => whnf
      have hq : n.tdiv 10 = -((n.natAbs / 10 : Nat) : Int) := by
        rw [show n = -((n.natAbs : Nat) : Int) from by omega, Int.neg_tdiv, Int.tdiv_eq_ediv_of_nonneg (by omega)]
        simp
      have hr : n.tmod 10 = -((n.natAbs % 10 : Nat) : Int) := by
        rw [show n = -((n.natAbs : Nat) : Int) from by omega, Int.neg_tmod, Int.tmod_eq_emod_of_nonneg (by omega)]
        simp
      rw [show IntKind.i64.wrap (n.tdiv 10) = -((n.natAbs / 10 : Nat) : Int) from by rw [hq, IntWalk.i64_in _ (by omega)]]
      have hu' : n.natAbs / 10 < 10 ^ (b + 1) := by rw [Nat.div_lt_iff_lt_mul (by omega)]; rw [Nat.pow_succ] at hu; exact hu
      refine (ih (-((n.natAbs / 10 : Nat) : Int)) (by omega) (by omega) (by omega) (by omega)).to ?_
      conv => whnf
      rw [show IntKind.i64.wrap (0 - n.tmod 10) = ((n.natAbs % 10 : Nat) : Int) from by rw [hr, IntWalk.i64_in _ (by omega)]; omega]
      refine (digits_spec h34 0 (n.natAbs % 10) (by simpa using Nat.mod_lt _ (by omega)) (by omega)).to ?_
      have hi : Lib.itoa (-((n.natAbs / 10 : Nat) : Int)) = 45 :: Lib.decDigits (n.natAbs / 10) := by
        rw [Lib.itoa, if_pos (by omega)]
        congr 2
        omega
      rw [hi]
      have hl1 := dec_len (n.natAbs / 10) b hu'
      have hl2 := dec_len (n.natAbs % 10) 0 (by simpa using Nat.mod_lt n.natAbs (by omega))
      conv => whnf
      refine step_some (add_str (by simp; omega)) ?_
      conv => whnf
      rw [Lib.itoa, if_pos hneg, dec_step hs]
      exact ret_weak (Weak.refl _)
    · have hpos : 0 ≤ n := by simpa using hn
      conv => whnf
      rw [show n = ((n.toNat : Nat) : Int) from by omega]
      refine (digits_spec h34 18 n.toNat (by omega) (by omega)).to ?_
      conv => whnf
      rw [Lib.itoa, if_neg (by omega), Int.toNat_natCast]
      exact ret_weak (Weak.refl _)

theorem itoa_len (n : Int) (h1 : -9223372036854775808 ≤ n) (h2 : n ≤ 9223372036854775807) : (Lib.itoa n).length ≤ 20 := by
  unfold Lib.itoa
  split
  · have := dec_len n.natAbs 18 (by omega); simp; omega
  · have := dec_len n.toNat 18 (by omega); omega

def namedB (s : List UInt8) : Bool := !s.any blank && s != []

theorem named_spec' (h13 : T.has 13 c_13) (s : List UInt8) (hs : s.length < 2 ^ 62) : Pure T.L 13 [.str s] (.bool (namedB s)) := by
  refine Pure.run (low1 (.str _)) (.bool _) (acallsG h13 (by simp [c_13]) ?_)
  conv => whnf
  intro I hI hG
  have key : ∀ (d k : Nat) (e : Env), s.length - k = d → k ≤ s.length → s.any blank = (s.drop k).any blank → I (setL e [(0, .str s), (3, .int .i64 k)]) [] := by
    intro d
    induction d with
    | zero =>
      intro k e hd hk hv
      obtain rfl : k = s.length := by omega
      apply hI
      conv => whnf
      rw [lt_false (Nat.le_refl _)]
      conv => whnf
      rw [List.drop_length] at hv
      rw [namedB, hv]
      exact ret_weak (Weak.refl _)
    | succ d ih =>
      intro k e hd hk hv
      have hlt : k < s.length := by omega
      rw [List.drop_eq_getElem_cons hlt, List.any_cons] at hv
      apply hI
      conv => whnf
      rw [lt_true hlt]
      conv => whnf
      refine step_at hlt ?_
      conv => whnf
      rw [show ((s[k].toNat : Int) == 32) = (s[k] == 32) from u8_beq s[k] 32]
      cases h32 : (s[k] == 32)
      · conv => whnf
        refine step_at hlt ?_
        conv => whnf
        rw [show ((s[k].toNat : Int) == 10) = (s[k] == 10) from u8_beq s[k] 10]
        cases h10 : (s[k] == 10)
        · conv => whnf
          refine inv_of [(0, .str s), (3, .int .i64 ((k + 1 : Nat) : Int))] ⟨rfl, add1 (by omega), trivial⟩ (ih (k + 1) _ (by omega) (by omega) ?_)
          rw [show blank s[k] = false from by simp [blank, h32, h10], Bool.false_or] at hv
          exact hv
        · conv => whnf
          rw [show blank s[k] = true from by simp [blank, h10], Bool.true_or] at hv
          rw [namedB, hv]
          exact ret_weak (Weak.refl _)
      · conv => whnf
        rw [show blank s[k] = true from by simp [blank, h32], Bool.true_or] at hv
        rw [namedB, hv]
        exact ret_weak (Weak.refl _)
  exact inv_of [(0, .str s), (3, .int .i64 0)] ⟨rfl, rfl, trivial⟩ (key s.length 0 _ rfl (by omega) rfl)

/-! Right -/
def rightB (x : StepA) : Bool :=
  if x.kind = 0 then namedB x.name
  else if x.kind = 1 ∨ x.kind = 3 ∨ x.kind = 4 ∨ x.kind = 5 then namedB x.name && (x.text == [] && x.n == 0)
  else if x.kind = 2 then x.name == [] && x.text == []
  else if x.kind = 6 then x.name == [] && (x.text == [] && x.n == 0)
  else false

theorem right_spec (h7 : T.has 7 c_7) (h13 : T.has 13 c_13) (x : StepA) (hx : x.name.length < 2 ^ 62) : Pure T.L 7 [x.av] (.bool (rightB x)) := by
  refine Pure.run (low1 (low_av _ x)) (.bool _) (acallsG h7 (by simp [c_7]) ?_)
  obtain ⟨kind, name, text, n⟩ := x
  dsimp only at hx
  have hn := named_spec' h13 name hx
  conv => whnf
  have mid : (kind = 1 ∨ kind = 3 ∨ kind = 4 ∨ kind = 5) → rightB ⟨kind, name, text, n⟩ = (namedB name && (text == [] && n == 0)) := fun h => by
    unfold rightB
    rw [if_neg (by dsimp only; omega), if_pos h]
  rcases (by omega : kind = 0 ∨ kind = 1 ∨ kind = 2 ∨ kind = 3 ∨ kind = 4 ∨ kind = 5 ∨ kind = 6 ∨ (kind ≠ 0 ∧ kind ≠ 1 ∧ kind ≠ 2 ∧ kind ≠ 3 ∧ kind ≠ 4 ∧ kind ≠ 5 ∧ kind ≠ 6)) with h | h | h | h | h | h | h | h
  · subst h
    conv => whnf
    refine hn.to ?_
    conv => whnf
    exact ret_weak (Weak.refl _)
  · rw [mid (.inl h)]; subst h
    conv => whnf
    refine hn.to ?_
    conv => whnf
    cases namedB name <;> (conv => whnf) <;> first | exact ret_weak (Weak.refl _) | skip
    cases (text == []) <;> (conv => whnf) <;> exact ret_weak (Weak.refl _)
  · subst h
    conv => whnf
    rw [show rightB ⟨2, name, text, n⟩ = (name == [] && text == []) from rfl]
    cases (name == []) <;> (conv => whnf) <;> exact ret_weak (Weak.refl _)
  · rw [mid (.inr (.inl h))]; subst h
    conv => whnf
    refine hn.to ?_
    conv => whnf
    cases namedB name <;> (conv => whnf) <;> first | exact ret_weak (Weak.refl _) | skip
    cases (text == []) <;> (conv => whnf) <;> exact ret_weak (Weak.refl _)
  · rw [mid (.inr (.inr (.inl h)))]; subst h
    conv => whnf
    refine hn.to ?_
    conv => whnf
    cases namedB name <;> (conv => whnf) <;> first | exact ret_weak (Weak.refl _) | skip
    cases (text == []) <;> (conv => whnf) <;> exact ret_weak (Weak.refl _)
  · rw [mid (.inr (.inr (.inr h)))]; subst h
    conv => whnf
    refine hn.to ?_
    conv => whnf
    cases namedB name <;> (conv => whnf) <;> first | exact ret_weak (Weak.refl _) | skip
    cases (text == []) <;> (conv => whnf) <;> exact ret_weak (Weak.refl _)
  · subst h
    conv => whnf
    rw [show rightB ⟨6, name, text, n⟩ = (name == [] && (text == [] && n == 0)) from rfl]
    rw [show (name == [] && (text == [] && n == 0)) = (((6 : Int) == 6 && (name == [] && (text == [] && (n == 0 && true)))) != false) from by simp]
    exact ret_weak (Weak.refl _)
  · have hr : rightB ⟨kind, name, text, n⟩ = false := by
      unfold rightB
      dsimp only
      rw [if_neg h.1, if_neg (by omega), if_neg h.2.2.1, if_neg h.2.2.2.2.2.2]
    rw [hr]
    rw [show (kind == 0) = false from by simp [h.1]]
    conv => whnf
    rw [show (kind == 1) = false from by simp [h.2.1]]
    conv => whnf
    rw [show (kind == 3) = false from by simp [h.2.2.2.1]]
    conv => whnf
    rw [show (kind == 4) = false from by simp [h.2.2.2.2.1]]
    conv => whnf
    rw [show (kind == 5) = false from by simp [h.2.2.2.2.2.1]]
    conv => whnf
    rw [show (kind == 2) = false from by simp [h.2.2.1]]
    conv => whnf
    rw [show (kind == 6) = false from by simp [h.2.2.2.2.2.2]]
    conv => whnf
    exact ret_weak (Weak.refl _)

/-! Line -/
def lineB (x : StepA) : List UInt8 :=
  let w := namesA.getD x.kind.toNat []
  if x.kind = 0 then w ++ [32] ++ x.name ++ [32] ++ Lib.itoa x.n ++ [32] ++ hexA x.text ++ [10]
  else if x.kind = 2 then w ++ [32] ++ Lib.itoa x.n ++ [10]
  else if x.kind = 6 then w ++ [10]
  else w ++ [32] ++ x.name ++ [10]

theorem hexA_len (s : List UInt8) : (hexA s).length ≤ 2 * s.length + 1 := by
  unfold hexA
  split
  · simp
  · rw [hexRaw_len]; omega

theorem line_spec (h9 : T.has 9 c_9) (h17 : T.has 17 c_17) (h34 : T.has 34 c_34) (hhex : ∀ s : List UInt8, s.length ≤ 300 → Pure T.L 18 [.str s] (.str (hexA s))) (x : StepA) (hk : 0 ≤ x.kind ∧ x.kind ≤ 6) (hx : x.name.length ≤ 60) (ht : x.text.length ≤ 300)
    (hn : -9223372036854775808 ≤ x.n ∧ x.n ≤ 9223372036854775807) : Pure T.L 9 [x.av] (.str (lineB x)) := by
  refine Pure.run (low1 (low_av _ x)) (.str _) (acallsG h9 (by simp [c_9]) ?_)
  obtain ⟨kind, name, text, n⟩ := x
  dsimp only at hk hx ht hn
  have hnum := num_spec h17 h34 18 n (by omega) (by omega) hn.1 hn.2
  have hil := itoa_len n hn.1 hn.2
  have hhl := hexA_len text
  have hhx := hhex text ht
  rcases (by omega : kind = 0 ∨ kind = 1 ∨ kind = 2 ∨ kind = 3 ∨ kind = 4 ∨ kind = 5 ∨ kind = 6) with h | h | h | h | h | h | h <;> subst h
  · conv => whnf
    refine ⟨(by show (0 : Int) ≤ 0; decide), ?_⟩
    conv => whnf
    refine ⟨rfl, ?_⟩
    conv => whnf
    refine step_some (add_str (by simp; omega)) ?_
    conv => whnf
    refine step_some (add_str (by simp; omega)) ?_
    conv => whnf
    refine hnum.soft ?_
    conv => whnf
    refine step_some (add_str (by simp; omega)) ?_
    conv => whnf
    refine step_some (add_str (by simp; omega)) ?_
    conv => whnf
    refine hhx.soft ?_
    conv => whnf
    refine step_some (add_str (by simp; omega)) ?_
    conv => whnf
    refine step_some (add_str (by simp; omega)) ?_
    conv => whnf
    exact ret_weak (Weak.refl _)
  · conv => whnf
    refine ⟨(by show (0 : Int) ≤ 1; decide), ?_⟩
    conv => whnf
    refine ⟨rfl, ?_⟩
    conv => whnf
    refine step_some (add_str (by simp; omega)) ?_
    conv => whnf
    refine step_some (add_str (by simp; omega)) ?_
    conv => whnf
    exact ret_weak (Weak.refl _)
  · conv => whnf
    refine ⟨(by show (0 : Int) ≤ 2; decide), ?_⟩
    conv => whnf
    refine ⟨rfl, ?_⟩
    conv => whnf
    refine hnum.to ?_
    conv => whnf
    refine step_some (add_str (by simp; omega)) ?_
    conv => whnf
    refine step_some (add_str (by simp; omega)) ?_
    conv => whnf
    exact ret_weak (Weak.refl _)
  · conv => whnf
    refine ⟨(by show (0 : Int) ≤ 3; decide), ?_⟩
    conv => whnf
    refine ⟨rfl, ?_⟩
    conv => whnf
    refine step_some (add_str (by simp; omega)) ?_
    conv => whnf
    refine step_some (add_str (by simp; omega)) ?_
    conv => whnf
    exact ret_weak (Weak.refl _)
  · conv => whnf
    refine ⟨(by show (0 : Int) ≤ 4; decide), ?_⟩
    conv => whnf
    refine ⟨rfl, ?_⟩
    conv => whnf
    refine step_some (add_str (by simp; omega)) ?_
    conv => whnf
    refine step_some (add_str (by simp; omega)) ?_
    conv => whnf
    exact ret_weak (Weak.refl _)
  · conv => whnf
    refine ⟨(by show (0 : Int) ≤ 5; decide), ?_⟩
    conv => whnf
    refine ⟨rfl, ?_⟩
    conv => whnf
    refine step_some (add_str (by simp; omega)) ?_
    conv => whnf
    refine step_some (add_str (by simp; omega)) ?_
    conv => whnf
    exact ret_weak (Weak.refl _)
  · conv => whnf
    refine ⟨(by show (0 : Int) ≤ 6; decide), ?_⟩
    conv => whnf
    refine ⟨rfl, ?_⟩
    conv => whnf
    exact ret_weak (Weak.refl _)

end Go.Ag

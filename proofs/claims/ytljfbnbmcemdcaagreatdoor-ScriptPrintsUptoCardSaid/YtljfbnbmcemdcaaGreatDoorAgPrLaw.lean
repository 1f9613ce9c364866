/- The law of the lines: what a step has for a line, and that lines are parsed as they were. -/
import Derived.Test.YtljfbnbmcemdcaaGreatDoorAgPrA
set_option linter.unusedVariables false
namespace Go.Ag
open Go

variable {T : Tab} {L : Lnk}

theorem dig_toNat {u : Nat} (h : u < 10) : (UInt8.ofNat (48 + u)).toNat = 48 + u := by rw [UInt8.toNat_ofNat']; omega

theorem parse_dec : ∀ (b u : Nat), u < 10 ^ (b + 1) → u < 18446744073709551616 → ∀ r, Lib.parseUint10 0 (Lib.decDigits u ++ r) = Lib.parseUint10 u r := fun b => by
  induction b with
  | zero =>
    intro u hu _ r
    have h : u < 10 := by simpa using hu
    rw [Lib.decDigits_one h, List.singleton_append, Lib.parseUint10, dig_toNat h, if_pos (by omega), if_neg (by omega), if_neg (by omega)]
    congr 1
    omega
  | succ b ih =>
    intro u hu hb r
    by_cases h : u < 10
    · rw [Lib.decDigits_one h, List.singleton_append, Lib.parseUint10, dig_toNat h, if_pos (by omega), if_neg (by omega), if_neg (by omega)]
      congr 1
      omega
    · have hm : u % 10 < 10 := Nat.mod_lt _ (by omega)
      rw [dec_step h, List.append_assoc, ih (u / 10) (by rw [Nat.div_lt_iff_lt_mul (by omega)]; rw [Nat.pow_succ] at hu; exact hu) (by omega), Lib.decDigits_one hm, List.singleton_append, Lib.parseUint10, dig_toNat hm,
        if_pos (by omega), if_neg (by omega), if_neg (by omega)]
      congr 1
      omega

theorem dec_bytes : ∀ (b u : Nat), u < 10 ^ (b + 1) → ∀ c ∈ Lib.decDigits u, 48 ≤ c.toNat ∧ c.toNat ≤ 57 := fun b => by
  induction b with
  | zero =>
    intro u hu c hc
    have h : u < 10 := by simpa using hu
    rw [Lib.decDigits_one h] at hc
    simp only [List.mem_singleton] at hc
    subst hc
    rw [dig_toNat h]; omega
  | succ b ih =>
    intro u hu c hc
    by_cases h : u < 10
    · rw [Lib.decDigits_one h] at hc
      simp only [List.mem_singleton] at hc
      subst hc
      rw [dig_toNat h]; omega
    · have hm : u % 10 < 10 := Nat.mod_lt _ (by omega)
      rw [dec_step h] at hc
      rcases List.mem_append.1 hc with hc | hc
      · exact ih (u / 10) (by rw [Nat.div_lt_iff_lt_mul (by omega)]; rw [Nat.pow_succ] at hu; exact hu) c hc
      · rw [Lib.decDigits_one hm] at hc
        simp only [List.mem_singleton] at hc
        subst hc
        rw [dig_toNat hm]; omega
theorem dec_ne (u : Nat) : Lib.decDigits u ≠ [] := by
  by_cases h : u < 10
  · rw [Lib.decDigits_one h]; simp
  · rw [dec_step h, Lib.decDigits_one (Nat.mod_lt _ (by omega))]; simp

theorem parseMag_dec (u : Nat) (h : u < 18446744073709551616) : Lib.parseMag (Lib.decDigits u) = .ok u := by
  unfold Lib.parseMag
  rw [if_neg (dec_ne u)]
  have := parse_dec 19 u (by omega) h []
  rw [List.append_nil] at this
  rw [this, Lib.parseUint10]

theorem atoi_itoa (n : Int) (h1 : -9223372036854775808 ≤ n) (h2 : n ≤ 9223372036854775807) : atoiC (Lib.itoa n) = (n, true) := by
  have key : Lib.atoiAll (Lib.itoa n) = .ok n := by
    unfold Lib.itoa
    split
    · rename_i hn
      rw [Lib.atoiAll]
      rw [show (45 : UInt8).toNat = 45 from rfl]
      rw [if_pos (by omega), parseMag_dec n.natAbs (by omega)]
      dsimp only
      rw [if_neg (by simp), if_neg (by omega), if_pos rfl]
      congr 1
      omega
    · rename_i hn
      have hb := dec_bytes 19 n.toNat (by omega)
      have hp := parseMag_dec n.toNat (by omega)
      cases hd : Lib.decDigits n.toNat with
      | nil => exact absurd hd (dec_ne _)
      | cons c r =>
        have hc := hb c (by rw [hd]; simp)
        rw [hd] at hp
        rw [Lib.atoiAll]
        rw [if_neg (by omega), hp]
        dsimp only
        rw [if_neg (by omega), if_neg (by omega), if_neg (by omega)]
        congr 1
        omega
  unfold atoiC
  rw [key]

theorem idx_digit : ∀ k : Fin 16, idxC (digitA k.val) = (k.val : Int) := by decide +kernel
theorem bare_hex : ∀ s : List UInt8, bareGo idxC (hexRaw s) = some s
  | [] => rfl
  | c :: s => by
    have hc := c.toNat_lt
    have e : hexRaw (c :: s) = digitA (c.toNat / 16) :: digitA (c.toNat % 16) :: hexRaw s := by simp [hexRaw]
    have e1 : idxC (digitA (c.toNat / 16)) = ((c.toNat / 16 : Nat) : Int) := idx_digit ⟨c.toNat / 16, by omega⟩
    have e2 : idxC (digitA (c.toNat % 16)) = ((c.toNat % 16 : Nat) : Int) := idx_digit ⟨c.toNat % 16, by omega⟩
    rw [e, bareGo, e1, e2, if_neg (by omega), bare_hex s]
    simp only [Option.map_some]
    congr 2
    rw [show (((c.toNat / 16 : Nat) : Int) * 16 + ((c.toNat % 16 : Nat) : Int)).toNat = c.toNat from by omega]
    exact UInt8.ofNat_toNat
theorem bareA_hex (s : List UInt8) : bareA idxC (hexA s) = (s, true) := by
  unfold hexA
  split
  · rename_i h; subst h; rfl
  · rename_i h
    have hl := hexRaw_len s
    unfold bareA
    rw [if_neg (by intro e; rw [e] at hl; simp at hl; omega), if_neg (by omega), bare_hex s]

theorem check_right {Y : ScriptLib5 L} (Q : LibIs Y) (x : StepA) (hn : -9223372036854775808 ≤ x.n ∧ x.n ≤ 9223372036854775807) : checkA Y.toScriptLib4 x = if rightB x then 0 else 1 := by
  obtain ⟨kind, name, text, n⟩ := x
  dsimp only at hn
  have ha := atoi_itoa n hn.1 hn.2
  have hh := bareA_hex text
  unfold checkA
  rw [Q.idx, Q.atoi, Q.itoa]
  have nb : (name = [] ∨ name.any blank = true) ↔ namedB name = false := by
    unfold namedB
    cases name with
    | nil => simp
    | cons c s => cases h : (c :: s).any blank <;> simp
  rcases (by omega : (kind < 0 ∨ kind > 6) ∨ kind = 0 ∨ kind = 1 ∨ kind = 2 ∨ kind = 3 ∨ kind = 4 ∨ kind = 5 ∨ kind = 6) with h | h | h | h | h | h | h | h
  · rw [if_pos h, show rightB ⟨kind, name, text, n⟩ = false from by
      unfold rightB
      dsimp only
      rw [if_neg (by omega), if_neg (by omega), if_neg (by omega), if_neg (by omega)]]
    rfl
  · subst h
    have hs : stepA idxC atoiC (wordsA Lib.itoa ⟨0, name, text, n⟩) = (⟨0, name, (bareA idxC (hexA text)).1, (atoiC (Lib.itoa n)).1⟩, (bareA idxC (hexA text)).2 && (atoiC (Lib.itoa n)).2) := rfl
    rw [hs, ha, hh, show rightB ⟨0, name, text, n⟩ = namedB name from rfl, if_neg (show ¬ ((0 : Int) < 0 ∨ (0 : Int) > 6) from by decide)]
    cases hb : namedB name
    · rw [if_pos ⟨(show (0 : Int) ≠ 2 ∧ (0 : Int) ≠ 6 from by decide), nb.2 hb⟩]; rfl
    · rw [if_neg (fun h => by rw [nb.1 h.2] at hb; cases hb), if_pos ⟨rfl, rfl⟩]; rfl
  · subst h
    have hs : stepA idxC atoiC (wordsA Lib.itoa ⟨1, name, text, n⟩) = (⟨1, name, [], 0⟩, true) := rfl
    rw [hs, show rightB ⟨1, name, text, n⟩ = (namedB name && (text == [] && n == 0)) from rfl, if_neg (show ¬ ((1 : Int) < 0 ∨ (1 : Int) > 6) from by decide)]
    cases hb : namedB name
    · rw [if_pos ⟨(show (1 : Int) ≠ 2 ∧ (1 : Int) ≠ 6 from by decide), nb.2 hb⟩]; rfl
    · rw [if_neg (fun h => by rw [nb.1 h.2] at hb; cases hb)]
      simp only [StepA.mk.injEq, true_and, Bool.true_and, Bool.and_eq_true, beq_iff_eq]
      congr 1
      simp only [eq_iff_iff]
      exact ⟨fun h => ⟨h.1.symm, h.2.symm⟩, fun h => ⟨h.1.symm, h.2.symm⟩⟩
  · subst h
    have hs : stepA idxC atoiC (wordsA Lib.itoa ⟨2, name, text, n⟩) = (⟨2, [], [], (atoiC (Lib.itoa n)).1⟩, (atoiC (Lib.itoa n)).2) := rfl
    rw [hs, ha, show rightB ⟨2, name, text, n⟩ = (name == [] && text == []) from rfl, if_neg (show ¬ ((2 : Int) < 0 ∨ (2 : Int) > 6) from by decide), if_neg (fun h => h.1.1 rfl)]
    simp only [StepA.mk.injEq, true_and, Bool.and_eq_true, beq_iff_eq, and_true]
    congr 1
    simp only [eq_iff_iff]
    exact ⟨fun h => ⟨h.1.symm, h.2.symm⟩, fun h => ⟨h.1.symm, h.2.symm⟩⟩
  · subst h
    have hs : stepA idxC atoiC (wordsA Lib.itoa ⟨3, name, text, n⟩) = (⟨3, name, [], 0⟩, true) := rfl
    rw [hs, show rightB ⟨3, name, text, n⟩ = (namedB name && (text == [] && n == 0)) from rfl, if_neg (show ¬ ((3 : Int) < 0 ∨ (3 : Int) > 6) from by decide)]
    cases hb : namedB name
    · rw [if_pos ⟨(show (3 : Int) ≠ 2 ∧ (3 : Int) ≠ 6 from by decide), nb.2 hb⟩]; rfl
    · rw [if_neg (fun h => by rw [nb.1 h.2] at hb; cases hb)]
      simp only [StepA.mk.injEq, true_and, Bool.true_and, Bool.and_eq_true, beq_iff_eq]
      congr 1
      simp only [eq_iff_iff]
      exact ⟨fun h => ⟨h.1.symm, h.2.symm⟩, fun h => ⟨h.1.symm, h.2.symm⟩⟩
  · subst h
    have hs : stepA idxC atoiC (wordsA Lib.itoa ⟨4, name, text, n⟩) = (⟨4, name, [], 0⟩, true) := rfl
    rw [hs, show rightB ⟨4, name, text, n⟩ = (namedB name && (text == [] && n == 0)) from rfl, if_neg (show ¬ ((4 : Int) < 0 ∨ (4 : Int) > 6) from by decide)]
    cases hb : namedB name
    · rw [if_pos ⟨(show (4 : Int) ≠ 2 ∧ (4 : Int) ≠ 6 from by decide), nb.2 hb⟩]; rfl
    · rw [if_neg (fun h => by rw [nb.1 h.2] at hb; cases hb)]
      simp only [StepA.mk.injEq, true_and, Bool.true_and, Bool.and_eq_true, beq_iff_eq]
      congr 1
      simp only [eq_iff_iff]
      exact ⟨fun h => ⟨h.1.symm, h.2.symm⟩, fun h => ⟨h.1.symm, h.2.symm⟩⟩
  · subst h
    have hs : stepA idxC atoiC (wordsA Lib.itoa ⟨5, name, text, n⟩) = (⟨5, name, [], 0⟩, true) := rfl
    rw [hs, show rightB ⟨5, name, text, n⟩ = (namedB name && (text == [] && n == 0)) from rfl, if_neg (show ¬ ((5 : Int) < 0 ∨ (5 : Int) > 6) from by decide)]
    cases hb : namedB name
    · rw [if_pos ⟨(show (5 : Int) ≠ 2 ∧ (5 : Int) ≠ 6 from by decide), nb.2 hb⟩]; rfl
    · rw [if_neg (fun h => by rw [nb.1 h.2] at hb; cases hb)]
      simp only [StepA.mk.injEq, true_and, Bool.true_and, Bool.and_eq_true, beq_iff_eq]
      congr 1
      simp only [eq_iff_iff]
      exact ⟨fun h => ⟨h.1.symm, h.2.symm⟩, fun h => ⟨h.1.symm, h.2.symm⟩⟩
  · subst h
    have hs : stepA idxC atoiC (wordsA Lib.itoa ⟨6, name, text, n⟩) = (⟨6, [], [], 0⟩, true) := rfl
    rw [hs, show rightB ⟨6, name, text, n⟩ = (name == [] && (text == [] && n == 0)) from rfl, if_neg (show ¬ ((6 : Int) < 0 ∨ (6 : Int) > 6) from by decide), if_neg (fun h => h.1.2 rfl)]
    simp only [StepA.mk.injEq, true_and, Bool.and_eq_true, beq_iff_eq]
    congr 1
    simp only [eq_iff_iff]
    exact ⟨fun h => ⟨h.1.symm, h.2.1.symm, h.2.2.symm⟩, fun h => ⟨h.1.symm, h.2.1.symm, h.2.2.symm⟩⟩

theorem line_line {Y : ScriptLib5 L} (Q : LibIs Y) (x : StepA) (h : 0 ≤ x.kind ∧ x.kind ≤ 6) : lineA Y x = lineB x := by
  unfold lineA lineB wordsA
  rw [Q.itoa]
  dsimp only
  split
  · simp [joinA, List.append_assoc]
  · split
    · simp [joinA, List.append_assoc]
    · split
      · simp [joinA]
      · simp [joinA, List.append_assoc]

/-! splitting what was joined -/
theorem split_word (c : UInt8) : ∀ w : List UInt8, c ∉ w → splitA c w = [w]
  | [], _ => rfl
  | x :: w, h => by
    simp only [List.mem_cons, not_or] at h
    rw [splitA, if_neg (Ne.symm h.1), split_word c w h.2]
theorem split_cons (c : UInt8) : ∀ (w r : List UInt8), c ∉ w → splitA c (w ++ c :: r) = w :: splitA c r
  | [], r, _ => by rw [List.nil_append, splitA, if_pos rfl]
  | x :: w, r, h => by
    simp only [List.mem_cons, not_or] at h
    rw [List.cons_append, splitA, if_neg (Ne.symm h.1), split_cons c w r h.2]
theorem split_join (c : UInt8) : ∀ ws : List (List UInt8), ws ≠ [] → (∀ w ∈ ws, c ∉ w) → splitA c (joinA c ws) = ws
  | [], h, _ => absurd rfl h
  | [w], _, h => by rw [joinA]; exact split_word c w (h w (by simp))
  | w :: u :: r, _, h => by
    rw [joinA, split_cons c w _ (h w (by simp)), split_join c (u :: r) (by simp) (fun x hx => h x (by simp at hx ⊢; right; exact hx))]
theorem mem_join (c d : UInt8) (hcd : d ≠ c) : ∀ ws : List (List UInt8), (∀ w ∈ ws, d ∉ w) → d ∉ joinA c ws
  | [], _ => by simp [joinA]
  | [w], h => by rw [joinA]; exact h w (by simp)
  | w :: u :: r, h => by
    rw [joinA]
    simp only [List.mem_append, List.mem_cons, not_or]
    exact ⟨h w (by simp), hcd, mem_join c d hcd (u :: r) (fun x hx => h x (by simp at hx ⊢; right; exact hx))⟩

theorem words_clean (x : StepA) (hr : rightB x = true) (hk : 0 ≤ x.kind ∧ x.kind ≤ 6) (hn : -9223372036854775808 ≤ x.n ∧ x.n ≤ 9223372036854775807) (c : UInt8) (hc : c = 32 ∨ c = 10) : ∀ w ∈ wordsA Lib.itoa x, c ∉ w := by
  have hcn : c.toNat = 32 ∨ c.toNat = 10 := by rcases hc with rfl | rfl <;> decide
  have hbl : blank c = true := by rcases hc with rfl | rfl <;> rfl
  have w1 : c ∉ namesA.getD x.kind.toNat [] := by
    rcases (by omega : x.kind.toNat = 0 ∨ x.kind.toNat = 1 ∨ x.kind.toNat = 2 ∨ x.kind.toNat = 3 ∨ x.kind.toNat = 4 ∨ x.kind.toNat = 5 ∨ x.kind.toNat = 6) with h | h | h | h | h | h | h <;> rw [h] <;> rcases hc with rfl | rfl <;> decide
  have w2 : c ∉ Lib.itoa x.n := by
    unfold Lib.itoa
    split
    · intro h
      rcases List.mem_cons.1 h with h | h
      · rw [h] at hcn; revert hcn; decide
      · have := dec_bytes 19 x.n.natAbs (by omega) c h; omega
    · intro h
      have := dec_bytes 19 x.n.toNat (by omega) c h; omega
  have dig : ∀ k : Fin 16, 45 < (digitA k.val).toNat := by decide +kernel
  have w3 : c ∉ hexA x.text := by
    unfold hexA
    split
    · intro h; simp only [List.mem_singleton] at h; rw [h] at hcn; revert hcn; decide
    · intro h
      simp only [hexRaw, List.mem_flatMap, List.mem_cons, List.not_mem_nil, or_false] at h
      obtain ⟨b, _, h⟩ := h
      have hb := b.toNat_lt
      rcases h with h | h
      · have := dig ⟨b.toNat / 16, by omega⟩; rw [h] at hcn; dsimp only at this; omega
      · have := dig ⟨b.toNat % 16, by omega⟩; rw [h] at hcn; dsimp only at this; omega
  have named : namedB x.name = true → c ∉ x.name := fun h hm => by
    unfold namedB at h
    simp only [Bool.and_eq_true, Bool.not_eq_true', bne_iff_ne] at h
    have := h.1
    rw [← Bool.not_eq_true, List.any_eq_true] at this
    exact this ⟨c, hm, hbl⟩
  unfold wordsA
  dsimp only
  split
  · rename_i h0
    have hn : namedB x.name = true := by unfold rightB at hr; rw [if_pos h0] at hr; exact hr
    intro w hw
    simp only [List.mem_cons, List.not_mem_nil, or_false] at hw
    rcases hw with rfl | rfl | rfl | rfl
    · exact w1
    · exact named hn
    · exact w2
    · exact w3
  · split
    · intro w hw
      simp only [List.mem_cons, List.not_mem_nil, or_false] at hw
      rcases hw with rfl | rfl
      · exact w1
      · exact w2
    · split
      · intro w hw
        simp only [List.mem_cons, List.not_mem_nil, or_false] at hw
        subst hw; exact w1
      · rename_i h0 h2 h6
        have hn : namedB x.name = true := by
          unfold rightB at hr
          rw [if_neg h0, if_pos (by omega)] at hr
          simp only [Bool.and_eq_true] at hr
          exact hr.1
        intro w hw
        simp only [List.mem_cons, List.not_mem_nil, or_false] at hw
        rcases hw with rfl | rfl
        · exact w1
        · exact named hn

theorem right_kind {x : StepA} (hr : rightB x = true) : 0 ≤ x.kind ∧ x.kind ≤ 6 := by
  unfold rightB at hr
  split at hr
  · omega
  · split at hr
    · omega
    · split at hr
      · omega
      · split at hr
        · omega
        · cases hr

theorem words_ne (I : Int → List UInt8) (x : StepA) : wordsA I x ≠ [] := by
  unfold wordsA
  dsimp only
  split
  · simp
  · split
    · simp
    · split <;> simp

theorem good_line {Y : ScriptLib5 L} (Q : LibIs Y) (x : StepA) (hr : rightB x = true) (hn : -9223372036854775808 ≤ x.n ∧ x.n ≤ 9223372036854775807) : goodL Y (joinA 32 (wordsA Y.itoaA x)) = some x ∧ (10 : UInt8) ∉ joinA 32 (wordsA Y.itoaA x) := by
  have hk := right_kind hr
  have hc := check_right Q x hn
  rw [hr, if_pos rfl] at hc
  have hstep : (stepA Y.idxD Y.atoiA (wordsA Y.itoaA x)).2 = true ∧ (stepA Y.idxD Y.atoiA (wordsA Y.itoaA x)).1 = x := by
    unfold checkA at hc
    rw [if_neg (by omega)] at hc
    split at hc
    · cases hc
    · split at hc
      · rename_i h; exact h
      · cases hc
  have hi : wordsA Y.itoaA x = wordsA Lib.itoa x := by rw [Q.itoa]
  have hsp : splitA 32 (joinA 32 (wordsA Y.itoaA x)) = wordsA Y.itoaA x := split_join 32 _ (words_ne _ x) (by rw [hi]; exact words_clean x hr hk hn 32 (.inl rfl))
  refine ⟨?_, mem_join 32 10 (by decide) _ (by rw [hi]; exact words_clean x hr hk hn 10 (.inr rfl))⟩
  unfold goodL
  rw [hsp]
  dsimp only
  rw [if_pos ⟨hstep.1, by rw [hstep.2]; exact hc, by rw [hstep.2]⟩, hstep.2]

theorem parse_lines {Y : ScriptLib5 L} (Q : LibIs Y) : ∀ l : List StepA, (∀ x ∈ l, rightB x = true ∧ -9223372036854775808 ≤ x.n ∧ x.n ≤ 9223372036854775807) → parseA Y (l.flatMap (lineA Y)) = .inl l
  | [], _ => rfl
  | x :: l, h => by
    obtain ⟨h1, h2⟩ := h x (by simp)
    obtain ⟨g1, g2⟩ := good_line Q x h1 h2
    have e : (x :: l).flatMap (lineA Y) = joinA 32 (wordsA Y.itoaA x) ++ 10 :: l.flatMap (lineA Y) := by
      rw [List.flatMap_cons, lineA, List.append_assoc]; rfl
    rw [e, parseA_line Y _ _ g2, g1, parse_lines Q l (fun y hy => h y (by simp [hy]))]

theorem print_right {Y : ScriptLib5 L} (Q : LibIs Y) : ∀ l : List StepA, (∀ x ∈ l, -9223372036854775808 ≤ x.n ∧ x.n ≤ 9223372036854775807) → printF Y l = if l.all rightB then some (l.flatMap (lineA Y)) else none
  | [], _ => rfl
  | x :: l, h => by
    rw [printF, check_right Q x (h x (by simp)), print_right Q l (fun y hy => h y (by simp [hy])), List.all_cons, List.flatMap_cons]
    cases rightB x
    · rw [if_neg (by decide)]; rfl
    · rw [if_pos rfl]
      cases l.all rightB <;> rfl

end Go.Ag

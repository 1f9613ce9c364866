/- The plain law behind ScriptParses: what Parse tells of a text. -/
import Derived.Test.YtljfbnbmcemdcaaGreatDoorAgScript6
set_option linter.unusedVariables false
namespace Go.Ag
open Go

variable {T : Tab} {L : Lnk}

theorem cutA_spec (c : UInt8) : ∀ s : List UInt8, ((cutA c s).2.2 = true ∧ s = (cutA c s).1 ++ c :: (cutA c s).2.1 ∧ c ∉ (cutA c s).1) ∨ ((cutA c s).2.2 = false ∧ (cutA c s).1 = s ∧ (cutA c s).2.1 = [] ∧ c ∉ s)
  | [] => .inr ⟨rfl, rfl, rfl, by simp⟩
  | x :: s => by
    have ih := cutA_spec c s
    unfold cutA
    by_cases h : x = c
    · subst h; rw [if_pos rfl]; exact .inl ⟨rfl, rfl, by simp⟩
    · rw [if_neg h]
      rcases ih with ⟨h1, h2, h3⟩ | ⟨h1, h2, h3, h4⟩
      · exact .inl ⟨h1, by simpa using h2, by simp [h3, Ne.symm h]⟩
      · exact .inr ⟨h1, by simp [h2], h3, by simp [h4, Ne.symm h]⟩
theorem cutA_of (c : UInt8) : ∀ (a b : List UInt8), c ∉ a → cutA c (a ++ c :: b) = (a, b, true)
  | [], b, _ => by simp [cutA]
  | x :: a, b, h => by
    simp only [List.mem_cons, not_or] at h
    simp only [List.cons_append, cutA, if_neg (Ne.symm h.1), cutA_of c a b h.2]
theorem cutA_no (c : UInt8) : ∀ (a : List UInt8), c ∉ a → cutA c a = (a, [], false)
  | [], _ => rfl
  | x :: a, h => by
    simp only [List.mem_cons, not_or] at h
    simp only [cutA, if_neg (Ne.symm h.1), cutA_no c a h.2]

def goodL (Y : ScriptLib5 L) (line : List UInt8) : Option StepA :=
  let x := stepA Y.idxD Y.atoiA (splitA 32 line)
  if x.2 = true ∧ checkA Y.toScriptLib4 x.1 = 0 ∧ joinA 32 (wordsA Y.itoaA x.1) = line then some x.1 else none

theorem goodA_line (Y : ScriptLib5 L) (a b : List UInt8) (h : (10 : UInt8) ∉ a) : goodA Y (a ++ 10 :: b) = (goodL Y a).map fun x => (x, b) := by
  unfold goodA goodL
  rw [cutA_of 10 a b h]
  dsimp only
  split
  · rename_i h1; rw [if_pos h1.2]; rfl
  · rename_i h1; rw [if_neg (fun h2 => h1 ⟨rfl, h2⟩)]; rfl
theorem goodA_last (Y : ScriptLib5 L) (a : List UInt8) (h : (10 : UInt8) ∉ a) : goodA Y a = none := by
  unfold goodA
  rw [cutA_no 10 a h]
  dsimp only
  rw [if_neg (by simp)]

/-- A text that is not empty begins with a line, or is one without its end. -/
theorem line_cases (s : List UInt8) : (∃ a b, s = a ++ 10 :: b ∧ (10 : UInt8) ∉ a) ∨ (10 : UInt8) ∉ s := by
  rcases cutA_spec 10 s with ⟨_, h2, h3⟩ | ⟨_, _, _, h4⟩
  · exact .inl ⟨_, _, h2, h3⟩
  · exact .inr h4

theorem parse_fuel (Y : ScriptLib5 L) : ∀ (k k' : Nat) (s : List UInt8), s.length ≤ k → s.length ≤ k' → parseF Y k s = parseF Y k' s
  | 0, 0, s, _, _ => rfl
  | 0, k' + 1, s, h, _ => by
    obtain rfl : s = [] := List.eq_nil_of_length_eq_zero (by omega)
    simp [parseF]
  | k + 1, 0, s, _, h => by
    obtain rfl : s = [] := List.eq_nil_of_length_eq_zero (by omega)
    simp [parseF]
  | k + 1, k' + 1, s, h, h' => by
    simp only [parseF]
    by_cases hs : s = []
    · rw [if_pos hs, if_pos hs]
    · rw [if_neg hs, if_neg hs]
      rcases line_cases s with ⟨a, b, rfl, ha⟩ | h10
      · rw [goodA_line Y a b ha]
        cases goodL Y a with
        | none => rfl
        | some x =>
          simp only [Option.map_some]
          rw [parse_fuel Y k k' b (by simp at h; omega) (by simp at h'; omega)]
      · rw [goodA_last Y s h10]

def parseA (Y : ScriptLib5 L) (s : List UInt8) : List StepA ⊕ Nat := parseF Y s.length s
theorem parseA_nil (Y : ScriptLib5 L) : parseA Y [] = .inl [] := rfl
theorem parseA_line (Y : ScriptLib5 L) (a b : List UInt8) (h : (10 : UInt8) ∉ a) : parseA Y (a ++ 10 :: b) = match goodL Y a with
    | none => .inr 1
    | some x => match parseA Y b with
      | .inl l => .inl (x :: l)
      | .inr n => .inr (n + 1) := by
  unfold parseA
  rw [show (a ++ 10 :: b).length = (a.length + b.length) + 1 from by simp; omega]
  simp only [parseF]
  rw [if_neg (by simp), goodA_line Y a b h]
  cases goodL Y a with
  | none => rfl
  | some x =>
    simp only [Option.map_some]
    rw [parse_fuel Y (a.length + b.length) b.length b (by omega) (Nat.le_refl _)]
    cases parseF Y b.length b <;> rfl
theorem parseA_last (Y : ScriptLib5 L) (a : List UInt8) (h : (10 : UInt8) ∉ a) (hne : a ≠ []) : parseA Y a = .inr 1 := by
  unfold parseA
  obtain ⟨c, t, rfl⟩ := List.exists_cons_of_ne_nil hne
  simp only [List.length_cons, parseF]
  rw [if_neg (by simp), goodA_last Y _ h]

theorem goodL_some (Y : ScriptLib5 L) {a : List UInt8} {x : StepA} (h : goodL Y a = some x) : checkA Y.toScriptLib4 x = 0 ∧ joinA 32 (wordsA Y.itoaA x) = a ∧ (a.length ≤ 2 ^ 31 → x.ok) := by
  unfold goodL at h
  dsimp only at h
  split at h
  · rename_i h1
    cases h
    refine ⟨h1.2.1, h1.2.2, fun hl => stepA_ok Y _ fun u hu => ?_⟩
    obtain ⟨w, r, e1, e2, e3⟩ := splitA_cons 32 a
    rw [e1] at hu
    rcases List.mem_cons.1 hu with rfl | hu
    · omega
    · have := e3 u hu; omega
  · cases h

/-- What is parsed is printed as it was. -/
theorem parse_print (Y : ScriptLib5 L) : ∀ (n : Nat) (s : List UInt8) (l : List StepA), s.length ≤ n → s.length ≤ 2 ^ 31 → parseA Y s = .inl l → printF Y l = some s ∧ (∀ x ∈ l, x.ok) ∧ l.flatMap (lineA Y) = s ∧ l.length ≤ s.length
  | 0, s, l, hn, hb, h => by
    obtain rfl : s = [] := List.eq_nil_of_length_eq_zero (by omega)
    rw [parseA_nil] at h
    cases h
    exact ⟨rfl, by simp, rfl, Nat.le_refl _⟩
  | n + 1, s, l, hn, hb, h => by
    rcases line_cases s with ⟨a, b, rfl, ha⟩ | h10
    · rw [parseA_line Y a b ha] at h
      cases hg : goodL Y a with
      | none => rw [hg] at h; cases h
      | some x =>
        rw [hg] at h
        cases hp : parseA Y b with
        | inr m => rw [hp] at h; cases h
        | inl l' =>
          rw [hp] at h
          cases h
          obtain ⟨g1, g2, g3⟩ := goodL_some Y hg
          simp only [List.length_append, List.length_cons] at hn hb
          obtain ⟨e1, e2, e3, e4⟩ := parse_print Y n b l' (by omega) (by omega) hp
          refine ⟨?_, ?_, ?_, ?_⟩
          · simp only [printF]
            rw [if_pos g1, e1]
            simp [lineA, g2]
          · intro y hy
            rcases List.mem_cons.1 hy with rfl | hy
            · exact g3 (by omega)
            · exact e2 y hy
          · simp [e3, lineA, g2]
          · simp; omega
    · by_cases hs : s = []
      · subst hs
        rw [parseA_nil] at h
        cases h
        exact ⟨rfl, by simp, rfl, Nat.le_refl _⟩
      · rw [parseA_last Y s h10 hs] at h; cases h

/-- Where a text is wrong. -/
theorem parse_bad (Y : ScriptLib5 L) : ∀ (k : Nat) (s : List UInt8) (n : Nat), s.length ≤ k → parseA Y s = .inr n →
    ∃ pre bad post, s = pre ++ bad ++ post ∧ (pre = [] ∨ ∃ p, pre = p ++ [10]) ∧ pre.count 10 + 1 = n ∧ (∃ l, parseA Y pre = .inl l ∧ l.length + 1 = n) ∧ parseA Y bad = .inr 1 ∧
      ((∃ b, bad = b ++ [10] ∧ (10 : UInt8) ∉ b) ∨ ((10 : UInt8) ∉ bad ∧ bad ≠ [] ∧ post = []))
  | 0, s, n, hk, h => by
    obtain rfl : s = [] := List.eq_nil_of_length_eq_zero (by omega)
    rw [parseA_nil] at h; cases h
  | k + 1, s, n, hk, h => by
    rcases line_cases s with ⟨a, b, rfl, ha⟩ | h10
    · rw [parseA_line Y a b ha] at h
      cases hg : goodL Y a with
      | none =>
        rw [hg] at h
        cases h
        refine ⟨[], a ++ [10], b, by simp, .inl rfl, by simp, ⟨[], parseA_nil Y, rfl⟩, ?_, .inl ⟨a, rfl, ha⟩⟩
        rw [parseA_line Y a [] ha, hg]
      | some x =>
        rw [hg] at h
        cases hp : parseA Y b with
        | inl l' => rw [hp] at h; cases h
        | inr m =>
          rw [hp] at h
          cases h
          simp only [List.length_append, List.length_cons] at hk
          obtain ⟨pre, bad, post, e1, e2, e3, ⟨l, e4, e5⟩, e6, e7⟩ := parse_bad Y k b m (by omega) hp
          refine ⟨a ++ 10 :: pre, bad, post, by rw [e1]; simp, .inr ?_, ?_, ⟨x :: l, ?_, by simp; omega⟩, e6, e7⟩
          · rcases e2 with rfl | ⟨p, rfl⟩
            · exact ⟨a, rfl⟩
            · exact ⟨a ++ 10 :: p, by simp⟩
          · rw [List.count_append, List.count_cons_self, List.count_eq_zero.2 ha]; omega
          · rw [parseA_line Y a pre ha, hg, e4]
    · by_cases hs : s = []
      · subst hs
        rw [parseA_nil] at h; cases h
      · rw [parseA_last Y s h10 hs] at h
        cases h
        exact ⟨[], s, [], by simp, .inl rfl, by simp, ⟨[], parseA_nil Y, rfl⟩, parseA_last Y s h10 hs, .inr ⟨h10, hs, rfl⟩⟩

end Go.Ag

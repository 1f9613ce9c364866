/- What the library's contracts say of strings, in our words. -/
import Derived.Test.YtljfbnbmcemdcaaGreatDoorAgScriptLaw
import Derived.Lib.IndexMore
import Derived.Lib.Split
import Derived.Lib.Join
import Derived.Lib.SlicesS
import Derived.Lib.IndexAny
import Derived.Lib.ItoaNum
import Derived.Lib.ItoaLen
set_option linter.unusedVariables false
namespace Go.Ag
open Go

theorem index_at (c : UInt8) : ∀ (a b : List UInt8), c ∉ a → Lib.index (a ++ c :: b) [c] = a.length
  | [], b, _ => by simp [Lib.index]
  | x :: a, b, h => by
    simp only [List.mem_cons, not_or] at h
    have ih := index_at c a b h.2
    simp only [List.cons_append, Lib.index]
    rw [if_neg (by simp [h.1]), ih, if_neg (by simp <;> omega)]
    simp
theorem index_no (c : UInt8) : ∀ (a : List UInt8), c ∉ a → Lib.index a [c] = -1
  | [], _ => rfl
  | x :: a, h => by
    simp only [List.mem_cons, not_or] at h
    simp only [Lib.index]
    rw [if_neg (by simp [h.1]), index_no c a h.2]
    rfl

theorem line_casesC (c : UInt8) (s : List UInt8) : (∃ a b, s = a ++ c :: b ∧ c ∉ a) ∨ c ∉ s := by
  rcases cutA_spec c s with ⟨_, h2, h3⟩ | ⟨_, _, _, h4⟩
  · exact .inl ⟨_, _, h2, h3⟩
  · exact .inr h4

theorem lib_cut (c : UInt8) (s : List UInt8) : Lib.cut s [c] = cutA c s := by
  unfold Lib.cut
  rcases line_casesC c s with ⟨a, b, rfl, h⟩ | h
  · rw [index_at c a b h, cutA_of c a b h, if_pos (by omega)]
    simp
  · rw [index_no c s h, cutA_no c s h]
    rfl

theorem splitA_at (c : UInt8) : ∀ (a b : List UInt8), c ∉ a → splitA c (a ++ c :: b) = a :: splitA c b
  | [], b, _ => by simp [splitA]
  | x :: a, b, h => by
    simp only [List.mem_cons, not_or] at h
    simp only [List.cons_append, splitA]
    rw [if_neg (Ne.symm h.1), splitA_at c a b h.2]
theorem splitA_no (c : UInt8) : ∀ (a : List UInt8), c ∉ a → splitA c a = [a]
  | [], _ => rfl
  | x :: a, h => by
    simp only [List.mem_cons, not_or] at h
    simp only [splitA]
    rw [if_neg (Ne.symm h.1), splitA_no c a h.2]

theorem countFrom_big (c : UInt8) : ∀ (n m : Nat) (s : List UInt8), s.length < n → s.length < m → Lib.countFrom [c] n s = Lib.countFrom [c] m s
  | 0, m, s, h, _ => by omega
  | n + 1, 0, s, _, h => by omega
  | n + 1, m + 1, s, h, h' => by
    simp only [Lib.countFrom]
    rcases line_casesC c s with ⟨a, b, rfl, ha⟩ | ha
    · rw [index_at c a b ha, if_neg (by simp <;> omega), if_neg (by simp <;> omega)]
      have e : (a ++ c :: b).drop (((a.length : Nat) : Int).toNat + [c].length) = b := by simp
      rw [e, countFrom_big c n m b (by simp at h; omega) (by simp at h'; omega)]
    · rw [index_no c s ha]; rfl

theorem lib_split (c : UInt8) : ∀ (n : Nat) (s : List UInt8), s.length < n → Lib.splitK [c] 0 (Lib.countFrom [c] n s) s = splitA c s ∧ (splitA c s).length = Lib.countFrom [c] n s + 1
  | 0, s, h => by omega
  | n + 1, s, h => by
    rcases line_casesC c s with ⟨a, b, rfl, ha⟩ | ha
    · have hb : b.length < n := by simp at h; omega
      obtain ⟨i1, i2⟩ := lib_split c n b hb
      have e : (a ++ c :: b).drop (((a.length : Nat) : Int).toNat + [c].length) = b := by simp
      have hc : Lib.countFrom [c] (n + 1) (a ++ c :: b) = Lib.countFrom [c] n b + 1 := by
        simp only [Lib.countFrom]
        rw [index_at c a b ha, if_neg (by simp <;> omega), e]; omega
      rw [hc]
      simp only [Lib.splitK]
      rw [index_at c a b ha, if_neg (by simp <;> omega), e, i1, splitA_at c a b ha]
      refine ⟨by simp, by simp [i2]⟩
    · have hc : Lib.countFrom [c] (n + 1) s = 0 := by
        simp only [Lib.countFrom]
        rw [index_no c s ha]; rfl
      rw [hc, splitA_no c s ha]
      exact ⟨rfl, rfl⟩

theorem lib_join (c : UInt8) : ∀ ws : List (List UInt8), Lib.join ws [c] = joinA c ws
  | [] => rfl
  | [w] => Lib.join_one w [c]
  | w :: u :: r => by
    have ih := lib_join c (u :: r)
    rw [Lib.join_cons] at ih ⊢
    simp only [joinA]
    rw [← ih]
    simp [Lib.joinTail]

theorem toArr (s : List UInt8) : (⟨s.toArray⟩ : ByteArray).data.toList = s := by simp
theorem byteArray_eq {a b : List UInt8} : ((⟨a.toArray⟩ : ByteArray) = ⟨b.toArray⟩) ↔ a = b := by
  constructor
  · intro h
    have := congrArg (fun x : ByteArray => x.data.toList) h
    simpa using this
  · rintro rfl; rfl
theorem lib_idx (w : List UInt8) : ∀ (l : List (List UInt8)) (i : Nat), Lib.idxFromS (l.map fun s => ⟨s.toArray⟩) ⟨w.toArray⟩ i = match l.findIdx? (· == w) with
    | some j => ((i + j : Nat) : Int)
    | none => -1
  | [], i => rfl
  | s :: l, i => by
    simp only [List.map_cons, Lib.idxFromS, byteArray_eq, List.findIdx?_cons]
    by_cases h : s = w
    · subst h; simp
    · rw [if_neg h, lib_idx w l (i + 1)]
      have : (s == w) = false := by simpa using h
      rw [this]
      simp only [Bool.false_eq_true, if_false]
      cases l.findIdx? (· == w) with
      | none => rfl
      | some j => simp only [Option.map_some]; exact congrArg Nat.cast (by omega)
theorem lib_idxS (l : List (List UInt8)) (w : List UInt8) : Lib.idxOfS (l.map fun s => ⟨s.toArray⟩) ⟨w.toArray⟩ = idxStr l w := by
  unfold Lib.idxOfS idxStr
  rw [lib_idx]
  cases l.findIdx? (· == w) <;> simp

theorem lib_any (s : List UInt8) : Lib.containsAny s [32, 10] = s.any blank := by
  have key : ∀ s : List UInt8, (0 ≤ Lib.indexAny s [32, 10]) ↔ s.any blank = true := by
    intro s
    induction s with
    | nil => simp [Lib.indexAny]
    | cons b l ih =>
      have hge := Lib.indexAny_ge [32, 10] l
      simp only [Lib.indexAny, List.any_cons, Bool.or_eq_true]
      have hb : ([32, 10] : List UInt8).contains b = blank b := by simp only [List.contains_cons, List.contains_nil, Bool.or_false, blank]
      rw [hb]
      by_cases h : blank b = true
      · simp [h]
      · rw [if_neg h]
        split
        · rename_i h1
          have h1 := beq_iff_eq.1 h1
          constructor
          · intro h2; omega
          · rintro (h2 | h2)
            · exact absurd h2 h
            · have := ih.2 h2; omega
        · rename_i h1
          have h1 : Lib.indexAny l [32, 10] ≠ -1 := fun e => h1 (beq_iff_eq.2 e)
          constructor
          · intro h2; exact .inr (ih.1 (by omega))
          · intro h2; omega
  unfold Lib.containsAny
  cases h : s.any blank with
  | true => exact decide_eq_true ((key s).2 h)
  | false => exact decide_eq_false fun h2 => by rw [(key s).1 h2] at h; cases h

end Go.Ag

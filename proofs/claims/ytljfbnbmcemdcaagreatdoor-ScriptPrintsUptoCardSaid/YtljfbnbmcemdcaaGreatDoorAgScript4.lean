/- Package script: Check. -/
import Derived.Test.YtljfbnbmcemdcaaGreatDoorAgScript3
set_option linter.unusedVariables false
namespace Go.Ag
open Go

variable {T : Tab} {L : Lnk}

def blank (c : UInt8) : Bool := c == 32 || c == 10

structure ScriptLib4 (L : Lnk) extends ScriptLib3 L where
  containsAny : ∀ s : List UInt8, s.length ≤ 2 ^ 31 → Pure L 14 [.str s, .str [32, 10]] (.bool (s.any blank))
  itoa_len : ∀ n : Int, -9223372036854775808 ≤ n → n ≤ 9223372036854775807 → (itoaA n).length ≤ 21

/-- Has a step a line? (0: yes, 1: no) -/
def checkA (Y : ScriptLib4 L) (x : StepA) : Int :=
  if x.kind < 0 ∨ x.kind > 6 then 1
  else if (x.kind ≠ 2 ∧ x.kind ≠ 6) ∧ (x.name = [] ∨ x.name.any blank = true) then 1
  else if (stepA Y.idxD Y.atoiA (wordsA Y.itoaA x)).2 = true ∧ (stepA Y.idxD Y.atoiA (wordsA Y.itoaA x)).1 = x then 0 else 1

def StepA.ok (x : StepA) : Prop := (-9223372036854775808 ≤ x.n ∧ x.n ≤ 9223372036854775807) ∧ x.name.length ≤ 2 ^ 31 ∧ x.text.length ≤ 2 ^ 38

theorem low_av (n : Nat) (x : StepA) : Low n x.av := .agg _ fun y hy => by simp only [StepA.cells, List.mem_cons, List.not_mem_nil, or_false] at hy; rcases hy with rfl | rfl | rfl | rfl <;> constructor

theorem wordsA_len (F : Int → List UInt8) (x : StepA) (hF : (F x.n).length ≤ 21) (hx : x.ok) : ∃ w r, wordsA F x = w :: r ∧ ∀ s ∈ r, s.length ≤ 2 ^ 40 := by
  obtain ⟨h1, h2, h3⟩ := hx
  have hh : (hexA x.text).length ≤ 2 ^ 40 := by
    unfold hexA
    split
    · simp
    · rw [hexRaw_len]; omega
  have hf := hF
  unfold wordsA
  split
  · exact ⟨_, _, rfl, fun s hs => by simp only [List.mem_cons, List.not_mem_nil, or_false] at hs; rcases hs with rfl | rfl | rfl <;> omega⟩
  · split
    · exact ⟨_, _, rfl, fun s hs => by simp only [List.mem_cons, List.not_mem_nil, or_false] at hs; subst hs; omega⟩
    · split
      · exact ⟨_, _, rfl, fun s hs => by cases hs⟩
      · exact ⟨_, _, rfl, fun s hs => by simp only [List.mem_cons, List.not_mem_nil, or_false] at hs; subst hs; omega⟩

theorem check_spec (Y : ScriptLib4 T.L) (h8 : T.has 8 c_8) (h15 : T.has 15 c_15) (h16 : T.has 16 c_16) (h29 : T.has 29 c_29) (h31 : T.has 31 c_31) (h33 : T.has 33 c_33) (h51 : T.has 51 c_51) (h21 : T.has 21 c_21) (x : StepA) (hx : x.ok) :
    Pure T.L 8 [x.av] (.int .i64 (checkA Y x)) := by
  refine Pure.run (fun y hy => by simp only [List.mem_singleton] at hy; subst hy; exact low_av _ x) (.int _ _) (acallsF h8 (by simp [c_8]) ?_)
  obtain ⟨w, r, hw, hr⟩ := wordsA_len Y.itoaA x (Y.itoa_len x.n hx.1.1 hx.1.2) hx
  have hstep := step_spec Y.toScriptLib3 h15 h29 h31 w r hr
  have hwords : 0 ≤ x.kind → x.kind ≤ 6 → Pure T.L 16 [x.av] (.lst (strs (w :: r)) .none) := fun h0 h6 => by
    rw [← hw]
    exact words_spec Y.toScriptLib2 h16 h29 h33 h51 h21 x ⟨h0, h6⟩ hx.1 (by have := hx.2.2; omega)
  have hany := Y.containsAny x.name (by have := hx.2.1; omega)
  have hck : checkA Y x = if x.kind < 0 ∨ x.kind > 6 then 1 else if (x.kind ≠ 2 ∧ x.kind ≠ 6) ∧ (x.name = [] ∨ x.name.any blank = true) then 1 else if (stepA Y.idxD Y.atoiA (w :: r)).2 = true ∧ (stepA Y.idxD Y.atoiA (w :: r)).1 = x then 0 else 1 := by
    rw [checkA, hw]
  rw [hck]
  clear hck hw
  obtain ⟨y, b, hyb⟩ : ∃ y b, stepA Y.idxD Y.atoiA (w :: r) = (y, b) := ⟨_, _, rfl⟩
  rw [hyb] at hstep ⊢
  clear hyb
  obtain ⟨kind, name, text, n⟩ := x
  obtain ⟨k', name', text', n'⟩ := y
  dsimp only at hwords hany ⊢
  have hlast : (if b = true ∧ (⟨k', name', text', n'⟩ : StepA) = ⟨kind, name, text, n⟩ then (0 : Int) else 1) = if b = true ∧ (kind == k' && (name == name' && (text == text' && (n == n' && true)))) = true then 0 else 1 := by
    simp only [StepA.mk.injEq, Bool.and_eq_true, beq_iff_eq]
    congr 1
    simp only [eq_iff_iff]
    constructor
    · rintro ⟨h, rfl, rfl, rfl, rfl⟩; simp [h]
    · rintro ⟨h, rfl, rfl, rfl, rfl, _⟩; simp [h]
  rw [hlast]
  clear hlast
  generalize hE : (kind == k' && (name == name' && (text == text' && (n == n' && true)))) = E
  conv => whnf
  refine ⟨rfl, ?_⟩
  conv => whnf
  have out : ∀ v : Int, v = 1 → ∃ x, ARet.ret (.int .i64 1) = .ret x ∧ Weak T.L x (.int .i64 v) := fun v hv => ⟨_, rfl, by rw [hv]; exact Weak.refl _⟩
  rcases (by omega : kind < 0 ∨ kind > 6 ∨ (kind = 0 ∨ kind = 1 ∨ kind = 3 ∨ kind = 4 ∨ kind = 5) ∨ (kind = 2 ∨ kind = 6)) with h | h | h | h
  · rw [show (kind != 2) = true from by simp; omega]
    conv => whnf
    rw [show (kind != 6) = true from by simp; omega]
    conv => whnf
    rw [show decide (kind < 0) = true from by simp [h]]
    conv => whnf
    exact out _ (if_pos (.inl h))
  · rw [show (kind != 2) = true from by simp; omega]
    conv => whnf
    rw [show (kind != 6) = true from by simp; omega]
    conv => whnf
    rw [show decide (kind < 0) = false from by simp; omega]
    conv => whnf
    rw [show decide (kind > 6) = true from by simp [h]]
    conv => whnf
    exact out _ (if_pos (.inr h))
  · rcases h with h | h | h | h | h <;> subst h <;> (
      conv => whnf
      cases hn : (name == [])
      · have hne : ¬ name = [] := by simpa using hn
        conv => whnf
        refine hany.to ?_
        cases ha : name.any blank
        · conv => whnf
          refine (hwords (by decide) (by decide)).to ?_
          conv => whnf
          refine hstep.to ?_
          conv => whnf
          refine ⟨⟨rfl, rfl⟩, ?_⟩
          rw [if_neg (by decide), if_neg (by simp [hne])]
          cases b
          · conv => whnf
            exact ret_weak (Weak.refl _)
          · conv => whnf
            split
            · rename_i h
              have h2 : (E != true) = true := by rw [← hE]; exact h
              have h3 : E = false := by simpa using h2
              conv => whnf
              exact out _ (if_neg (by rw [h3]; simp))
            · rename_i h
              have h2 : (E != true) = false := by rw [← hE]; exact h
              have h3 : E = true := by simpa using h2
              conv => whnf
              exact ⟨_, rfl, by rw [if_pos ⟨rfl, h3⟩]; exact Weak.refl _⟩
        · conv => whnf
          exact out _ (by rw [if_neg (by decide), if_pos ⟨by decide, .inr rfl⟩])
      · conv => whnf
        exact out _ (by rw [if_neg (by decide), if_pos ⟨by decide, .inl (by simpa using hn)⟩]))
  · rcases h with h | h <;> subst h <;> (
      conv => whnf
      refine (hwords (by decide) (by decide)).to ?_
      conv => whnf
      refine hstep.to ?_
      conv => whnf
      refine ⟨⟨rfl, rfl⟩, ?_⟩
      rw [if_neg (by decide), if_neg (by simp)]
      cases b
      · conv => whnf
        exact ret_weak (Weak.refl _)
      · conv => whnf
        split
        · rename_i h
          have h2 : (E != true) = true := by rw [← hE]; exact h
          have h3 : E = false := by simpa using h2
          conv => whnf
          exact out _ (if_neg (by rw [h3]; simp))
        · rename_i h
          have h2 : (E != true) = false := by rw [← hE]; exact h
          have h3 : E = true := by simpa using h2
          conv => whnf
          exact ⟨_, rfl, by rw [if_pos ⟨rfl, h3⟩]; exact Weak.refl _⟩)

end Go.Ag

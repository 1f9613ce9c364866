/- Package cupelref05: what the reader reads of a type, as plain functions. -/
import Derived.Test.YtljfbnbmcemdcaaGreatDoorAgRefT
set_option linter.unusedVariables false
namespace Go.Ag
open Go

def kBar : Bytes := [124]
def kArr : Bytes := [45, 62]
def kInt : Bytes := [105, 110, 116]
def kBool : Bytes := [98, 111, 111, 108]
def kText : Bytes := [116, 101, 120, 116]
def kDyn : Bytes := [63]
def kLb : Bytes := [123]
def kRb : Bytes := [125]
def kLp : Bytes := [40]
def kRp : Bytes := [41]
def kColon : Bytes := [58]
def kComma : Bytes := [44]

def zeroT : TA := .mk 0 [] [] []
def TA.names : TA → List Bytes | .mk _ _ ns _ => ns
def TA.l : TA → List TA | .mk _ _ _ l => l
def twiceR (s : RS) (t : TokA) : RS := { s with diags := s.diags ++ [⟨t.at_, 4, t.text⟩] }
/-- Behind an item: a comma, unless it closes. -/
def commaR (s : RS) : RS := if isR s kRb then s else if isR (takeR s kComma) kRb then giveR (takeR s kComma) 2 else takeR s kComma

mutual
def typeR : Nat → Nat → RS → TA × RS
  | 0, _, s => (zeroT, s)
  | n + 1, d, s =>
    if (if 64 < d then giveR s 3 else s).bad then (zeroT, if 64 < d then giveR s 3 else s)
    else if isR (arrowR n d (if 64 < d then giveR s 3 else s)).2 kBar then
      (.mk 7 [] [] (altsR n d [(arrowR n d (if 64 < d then giveR s 3 else s)).1] (arrowR n d (if 64 < d then giveR s 3 else s)).2).1, (altsR n d [(arrowR n d (if 64 < d then giveR s 3 else s)).1] (arrowR n d (if 64 < d then giveR s 3 else s)).2).2)
    else arrowR n d (if 64 < d then giveR s 3 else s)
def altsR : Nat → Nat → List TA → RS → List TA × RS
  | 0, _, l, s => (l, s)
  | n + 1, d, l, s => if isR s kBar then altsR n d (l ++ [(arrowR n d (takeR s kBar)).1]) (arrowR n d (takeR s kBar)).2 else (l, s)
def arrowR : Nat → Nat → RS → TA × RS
  | 0, _, s => (zeroT, s)
  | n + 1, d, s =>
    if isR (plainR n d s).2 kArr then
      if 64 < d + 1 then ((plainR n d s).1, giveR (takeR (plainR n d s).2 kArr) 3)
      else (.mk 6 [] [] [(plainR n d s).1, (arrowR n (d + 1) (takeR (plainR n d s).2 kArr)).1], (arrowR n (d + 1) (takeR (plainR n d s).2 kArr)).2)
    else plainR n d s
def plainR : Nat → Nat → RS → TA × RS
  | 0, _, s => (zeroT, s)
  | n + 1, d, s =>
    if s.bad then (zeroT, s)
    else if s.tok.kind = 1 then (.mk 8 s.tok.text [] [], { s with i := s.i + 1 })
    else if isR s kInt then (.mk 1 [] [] [], takeR s kInt)
    else if isR s kBool then (.mk 2 [] [] [], takeR s kBool)
    else if isR s kText then (.mk 3 [] [] [], takeR s kText)
    else if isR s kDyn then (.mk 4 [] [] [], takeR s kDyn)
    else if isR s kLb then fieldsR n d (.mk 5 [] [] []) (takeR s kLb)
    else if (takeR s kLp).bad then (zeroT, takeR s kLp)
    else ((typeR n (d + 1) (takeR s kLp)).1, takeR (typeR n (d + 1) (takeR s kLp)).2 kRp)
def fieldsR : Nat → Nat → TA → RS → TA × RS
  | 0, _, out, s => (out, s)
  | n + 1, d, out, s =>
    if !s.bad && !isR s kRb then
      if (takeR (nameR s).2 kColon).bad then (zeroT, takeR (nameR s).2 kColon)
      else if hasR out.names (nameR s).1.text then
        fieldsR n d out (commaR (typeR n (d + 1) (twiceR (takeR (nameR s).2 kColon) (nameR s).1)).2)
      else
        fieldsR n d (.mk 5 [] (insR out.names (lowR out.names (nameR s).1.text) (nameR s).1.text) (insR out.l (lowR out.names (nameR s).1.text) (typeR n (d + 1) (takeR (nameR s).2 kColon)).1))
          (commaR (typeR n (d + 1) (takeR (nameR s).2 kColon)).2)
    else (out, takeR s kRb)
end

theorem comma_le {s : RS} (hs : s.ok) : s.le (commaR s) := by
  unfold commaR
  have h := take_le hs kComma
  split
  · exact RS.le.refl hs
  · split
    · exact h.trans (give_le (hs.of h) 2)
    · exact h
theorem take_bad {s : RS} {w : Bytes} (h : (takeR s w).bad = false) : s.bad = false ∧ isR s w = true ∧ takeR s w = { s with i := s.i + 1 } := by
  unfold takeR at h ⊢
  split at h
  · rename_i hi
    exact ⟨(is_kind hi).2.1, hi, by rw [if_pos hi]⟩
  · unfold giveR at h
    split at h
    · rename_i hb; rw [hb] at h; cases h
    · cases h
theorem name_bad {s : RS} (h : (nameR s).2.bad = false) : s.bad = false ∧ s.tok.kind = 1 ∧ nameR s = (s.tok, { s with i := s.i + 1 }) := by
  unfold nameR at h ⊢
  split at h
  · rename_i hb; rw [hb] at h; cases h
  · rename_i hb
    split at h
    · rename_i hk; exact ⟨by simpa using hb, hk, by rw [if_neg hb, if_pos hk]⟩
    · unfold giveR at h
      rw [if_neg hb] at h
      cases h
theorem take_yes {s : RS} {w : Bytes} (h : isR s w = true) : takeR s w = { s with i := s.i + 1 } := by unfold takeR; rw [if_pos h]
theorem take_rem {s : RS} (hs : s.ok) {w : Bytes} (h : isR s w = true) : (takeR s w).rem + 1 = s.rem := by
  rw [take_yes h]
  unfold RS.rem
  have := hs.lt
  simp only
  omega
/-- Two tokens are behind: there is room for a word. -/
theorem twice_le {s : RS} (hs : s.ok) (w : Bytes) (h : (takeR (nameR s).2 w).bad = false) : s.le (twiceR (takeR (nameR s).2 w) (nameR s).1) := by
  have h1 := name_le hs
  have h2 := h1.trans (take_le (hs.of h1) w)
  obtain ⟨h3, h4, h5⟩ := take_bad h
  obtain ⟨h6, h7, h8⟩ := name_bad h3
  refine ⟨h2.toks, h2.i, h2.lt, ?_⟩
  rw [h5, h8]
  have h9 := h2.lt
  rw [h5, h8] at h9
  simp only at h9
  simp only [twiceR, RS.pot, List.length_append, List.length_cons, List.length_nil, h6]
  simp
  omega

theorem two_rem {s : RS} (hs : s.ok) (w : Bytes) (h : (takeR (nameR s).2 w).bad = false) : (takeR (nameR s).2 w).rem + 2 = s.rem := by
  have h1 := name_le hs
  have h2 := h1.trans (take_le (hs.of h1) w)
  obtain ⟨h3, h4, h5⟩ := take_bad h
  obtain ⟨h6, h7, h8⟩ := name_bad h3
  have h9 := h2.lt
  rw [h5, h8] at h9 ⊢
  simp only at h9
  simp only [RS.rem]
  omega

theorem le_types : ∀ n : Nat, (∀ (d : Nat) (s : RS), s.ok → s.le (typeR n d s).2) ∧ (∀ (d : Nat) (l : List TA) (s : RS), s.ok → s.le (altsR n d l s).2) ∧ (∀ (d : Nat) (s : RS), s.ok → s.le (arrowR n d s).2) ∧ (∀ (d : Nat) (s : RS), s.ok → s.le (plainR n d s).2) ∧ (∀ (d : Nat) (out : TA) (s : RS), s.ok → s.le (fieldsR n d out s).2) := by
  intro n
  induction n with
  | zero => exact ⟨fun d s h => by unfold typeR; exact RS.le.refl h, fun d l s h => by unfold altsR; exact RS.le.refl h, fun d s h => by unfold arrowR; exact RS.le.refl h, fun d s h => by unfold plainR; exact RS.le.refl h, fun d o s h => by unfold fieldsR; exact RS.le.refl h⟩
  | succ n ih =>
    obtain ⟨h1, h2, h3, h4, h5⟩ := ih
    refine ⟨fun d s h => ?_, fun d l s h => ?_, fun d s h => ?_, fun d s h => ?_, fun d out s h => ?_⟩
    · have hle : s.le (if 64 < d then giveR s 3 else s) := by
        split
        · exact give_le h 3
        · exact RS.le.refl h
      unfold typeR
      generalize (if 64 < d then giveR s 3 else s) = s1 at hle ⊢
      have ho := h.of hle
      split
      · exact hle
      · split
        · exact hle.trans ((h3 d s1 ho).trans (h2 _ _ _ (ho.of (h3 d s1 ho))))
        · exact hle.trans (h3 d s1 ho)
    · unfold altsR
      split
      · have k1 := take_le h kBar
        have k2 := h3 d _ (h.of k1)
        exact k1.trans (k2.trans (h2 _ _ _ ((h.of k1).of k2)))
      · exact RS.le.refl h
    · unfold arrowR
      have k1 := h4 d s h
      have k2 := take_le (h.of k1) kArr
      have ho := (h.of k1).of k2
      split
      · split
        · exact k1.trans (k2.trans (give_le ho 3))
        · exact k1.trans (k2.trans (h3 _ _ ho))
      · exact k1
    · unfold plainR
      split
      · exact RS.le.refl h
      · split
        · rename_i hk; exact next_le h (by omega)
        · split
          · exact take_le h _
          · split
            · exact take_le h _
            · split
              · exact take_le h _
              · split
                · exact take_le h _
                · split
                  · exact (take_le h _).trans (h5 _ _ _ (h.of (take_le h _)))
                  · split
                    · exact take_le h _
                    · have k1 := take_le h kLp
                      have k2 := h1 (d + 1) _ (h.of k1)
                      exact k1.trans (k2.trans (take_le ((h.of k1).of k2) _))
    · unfold fieldsR
      split
      · split
        · exact (name_le h).trans (take_le (h.of (name_le h)) _)
        · rename_i hb
          have hb : (takeR (nameR s).2 kColon).bad = false := by simpa using hb
          split
          · have k1 := twice_le h kColon hb
            have k2 := h1 (d + 1) _ (h.of k1)
            have k3 := comma_le ((h.of k1).of k2)
            exact k1.trans (k2.trans (k3.trans (h5 _ _ _ (((h.of k1).of k2).of k3))))
          · have k1 := (name_le h).trans (take_le (h.of (name_le h)) kColon)
            have k2 := h1 (d + 1) _ (h.of k1)
            have k3 := comma_le ((h.of k1).of k2)
            exact k1.trans (k2.trans (k3.trans (h5 _ _ _ (((h.of k1).of k2).of k3))))
      · exact take_le h _

end Go.Ag

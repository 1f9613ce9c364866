/- Our texts, joined by a program of ours (join.py): part 7 of 8. -/
import Derived.Test.YtjampheggjpjdaaGreatDoorTextF
import Derived.KernelRfl
set_option linter.unusedVariables false
/- A type's text tells it. -/
namespace Go.Ag
open Go
def kD (s : Bytes) : Prop := s ≠ [] ∧ (∀ c ∈ s, inA c bU = true) ∧ s ≠ Gt ∧ s ≠ yI ∧ s ≠ yH
inductive RT : TA → Prop where
 | int : RT (.mk 1 [] [] [])
 | bool : RT (.mk 2 [] [] [])
 | text : RT (.mk 3 [] [] [])
 | dyn : RT (.mk 4 [] [] [])
 | rcd (ns : List Bytes) (l : List TA) (hs : ns.Pairwise (· < ·)) (hl : ns.length = l.length) (hn : ∀ n ∈ ns, kD n) (h : ∀ t ∈ l, RT t) : RT (.mk 5 [] ns l)
 | fn (a b : TA) (ha : RT a) (hb : RT b) : RT (.mk 6 [] [] [a, b])
 | uni (l : List TA) (h2 : 2 ≤ l.length) (h : ∀ t ∈ l, RT t) (h7 : ∀ t ∈ l, t.kind ≠ 7) : RT (.mk 7 [] [] l)
 | ref (nm : Bytes) (h : kD nm) : RT (.mk 8 nm [] [])
def D2 (r : Bytes) : Prop := ∀ c z, r = c :: z → inA c bU = false
def D1 (r : Bytes) : Prop := D2 r ∧ ∀ z, r ≠ 32 :: 45 :: 62 :: 32 :: z
def D0 (r : Bytes) : Prop := D1 r ∧ ∀ z, r ≠ 32 :: 124 :: 32 :: z
def C2 (a : TA) : Prop := ∀ b r r', RT b → prT a 2 ++ r = prT b 2 ++ r' → D2 r → D2 r' → a = b ∧ r = r'
def C1 (a : TA) : Prop := ∀ b r r', RT b → prT a 1 ++ r = prT b 1 ++ r' → D1 r → D1 r' → a = b ∧ r = r'
def C0 (a : TA) : Prop := ∀ b r r', RT b → prT a 0 ++ r = prT b 0 ++ r' → D0 r → D0 r' → a = b ∧ r = r'
theorem sQ (lv : Nat) : prT (.mk 1 [] [] []) lv = Gt := by rw [prT]; rfl
theorem qG (lv : Nat) : prT (.mk 2 [] [] []) lv = yI := by rw [prT]; rfl
theorem qF (lv : Nat) : prT (.mk 3 [] [] []) lv = yH := by rw [prT]; rfl
theorem qV (lv : Nat) : prT (.mk 4 [] [] []) lv = [63] := by rw [prT]; rfl
theorem xg (ns : List Bytes) (l : List TA) (lv : Nat) : prT (.mk 5 [] ns l) lv = [123] ++ iM [44, 32] (nu ns (prL l 0)) ++ [125] := by rw [prT]; rfl
theorem Ep (a b : TA) (lv : Nat) : prT (.mk 6 [] [] [a, b]) lv = KX (prT a 2 ++ [32, 45, 62, 32] ++ prT b 1) (decide (2 ≤ lv)) := by rw [prT]; simp [prL]
theorem zw (l : List TA) (h : l ≠ []) (lv : Nat) : prT (.mk 7 [] [] l) lv = KX (iM [32, 124, 32] (prL l 1)) (decide (1 ≤ lv)) := by
 rw [prT]
 simp only [show ¬ (7 : Int) = 1 by decide, show ¬ (7 : Int) = 2 by decide, show ¬ (7 : Int) = 3 by decide, show ¬ (7 : Int) = 4 by decide, show ¬ (7 : Int) = 5 by decide, show ¬ (7 : Int) = 6 by decide, if_false, if_true]
 rw [if_neg]
 intro h0; exact h (List.eq_nil_of_length_eq_zero h0)
theorem sP (nm : Bytes) (lv : Nat) : prT (.mk 8 nm [] []) lv = nm := by rw [prT]; rfl
theorem FI : ∀ {w w' r r' : Bytes}, (∀ c ∈ w, inA c bU = true) → (∀ c ∈ w', inA c bU = true) → D2 r → D2 r' → w ++ r = w' ++ r' → w = w' ∧ r = r'
 | [], [], r, r', _, _, _, _, e => ⟨rfl, e⟩
 | [], c :: w', r, r', _, h', hr, _, e => by
  have := hr c (w' ++ r') e
  rw [h' c (by simp)] at this; cases this
 | c :: w, [], r, r', h, _, _, hr', e => by
  have := hr' c (w ++ r) e.symm
  rw [h c (by simp)] at this; cases this
 | c :: w, d :: w', r, r', h, h', hr, hr', e => by
  simp only [List.cons_append, List.cons.injEq] at e
  obtain ⟨rfl, e⟩ := e
  obtain ⟨e1, e2⟩ := FI (fun x hx => h x (by simp [hx])) (fun x hx => h' x (by simp [hx])) hr hr' e
  exact ⟨by rw [e1], e2⟩
inductive Beg : TA → Prop where
 | word (t : TA) (k : t.kind = 1 ∨ t.kind = 2 ∨ t.kind = 3 ∨ t.kind = 8) (hne : prT t 2 ≠ []) (h : ∀ c ∈ prT t 2, inA c bU = true) : Beg t
 | dyn : Beg (.mk 4 [] [] [])
 | rcd (ns : List Bytes) (l : List TA) (z : Bytes) (h : prT (.mk 5 [] ns l) 2 = 123 :: z) : Beg (.mk 5 [] ns l)
 | par (t : TA) (k : t.kind = 6 ∨ t.kind = 7) (h : prT t 2 = 40 :: (prT t 0 ++ [41])) : Beg t
theorem beg {t : TA} (h : RT t) : Beg t := by
 cases h with
 | int => exact .word _ (.inl rfl) (by rw [sQ]; decide) (by rw [sQ]; decide)
 | bool => exact .word _ (.inr (.inl rfl)) (by rw [qG]; decide) (by rw [qG]; decide)
 | text => exact .word _ (.inr (.inr (.inl rfl))) (by rw [qF]; decide) (by rw [qF]; decide)
 | dyn => exact .dyn
 | rcd ns l => exact .rcd ns l _ (by rw [xg]; rfl)
 | fn a b => exact .par _ (.inl rfl) (by rw [Ep, Ep]; rfl)
 | uni l h2 => exact .par _ (.inr rfl) (by
   have : l ≠ [] := by rintro rfl; simp at h2
   rw [zw _ this, zw _ this]; rfl)
 | ref nm h => exact .word _ (.inr (.inr (.inr rfl))) (by rw [sP]; exact h.1) (by rw [sP]; exact h.2.1)
theorem jS {w z r : Bytes} (hne : w ≠ []) (h : ∀ c ∈ w, inA c bU = true) {c : UInt8} (hc : inA c bU = false) : w ++ r ≠ c :: z := by
 cases w with
 | nil => exact absurd rfl hne
 | cons d w =>
  intro e
  simp only [List.cons_append, List.cons.injEq] at e
  rw [← e.1, h d (by simp)] at hc
  cases hc
theorem FD {c : UInt8} {z : Bytes} (h : inA c bU = false) : D2 (c :: z) := fun d y e => by cases e; exact h
theorem D1_of {c : UInt8} {z : Bytes} (h : inA c bU = false) (hc : c ≠ 32) : D1 (c :: z) := ⟨FD h, fun y e => hc (by cases e; rfl)⟩
theorem Kc {c : UInt8} {z : Bytes} (h : inA c bU = false) (hc : c ≠ 32) : D0 (c :: z) := ⟨D1_of h hc, fun y e => hc (by cases e; rfl)⟩
theorem V6 {t : TA} (h : RT t) (h6 : t.kind ≠ 6) : prT t 1 = prT t 2 := by
 cases h with
 | int => rw [sQ, sQ]
 | bool => rw [qG, qG]
 | text => rw [qF, qF]
 | dyn => rw [qV, qV]
 | rcd => rw [xg, xg]
 | fn => exact absurd rfl h6
 | uni l h2 =>
  have : l ≠ [] := by rintro rfl; simp at h2
  rw [zw _ this, zw _ this]; rfl
 | ref => rw [sP, sP]
theorem V7 {t : TA} (h : RT t) (h7 : t.kind ≠ 7) : prT t 0 = prT t 1 := by
 cases h with
 | int => rw [sQ, sQ]
 | bool => rw [qG, qG]
 | text => rw [qF, qF]
 | dyn => rw [qV, qV]
 | rcd => rw [xg, xg]
 | fn => rw [Ep, Ep]; rfl
 | uni => exact absurd rfl h7
 | ref => rw [sP, sP]
theorem MP {t : TA} (h : RT t) (h6 : t.kind = 6) : ∃ a b, t = .mk 6 [] [] [a, b] ∧ RT a ∧ RT b := by
 cases h <;> first | (cases h6; done) | exact ⟨_, _, rfl, by assumption, by assumption⟩
theorem Hf {t : TA} (h : RT t) (h7 : t.kind = 7) : ∃ q qs, t = .mk 7 [] [] (q :: qs) ∧ qs ≠ [] ∧ (∀ x ∈ q :: qs, RT x) ∧ ∀ x ∈ q :: qs, x.kind ≠ 7 := by
 cases h with
 | uni l h2 h h7' =>
  match l, h2 with
  | q :: p :: qs, _ => exact ⟨q, p :: qs, rfl, by simp, h, h7'⟩
 | _ => cases h7
theorem KN (a b : TA) : prT (.mk 6 [] [] [a, b]) 1 = prT a 2 ++ ([32, 45, 62, 32] ++ prT b 1) := by rw [Ep]; show _ ++ _ ++ _ = _; rw [List.append_assoc]
theorem qm {a : TA} (ha : RT a) (h6 : a.kind ≠ 6) (h : C2 a) : C1 a := fun b r r' hb e hr hr' => by
 rw [V6 ha h6] at e
 by_cases hb6 : b.kind = 6
 ·obtain ⟨b1, b2, rfl, k1, k2⟩ := MP hb hb6
  rw [KN, List.append_assoc] at e
  obtain ⟨_, e2⟩ := h b1 _ _ k1 e hr.1 (FD (by decide))
  exact absurd e2 (by rw [List.append_assoc]; exact hr.2 _)
 ·rw [V6 hb hb6] at e
  exact h b r r' hb e hr.1 hr'.1
theorem C1_fn {a1 a2 : TA} (h1 : C2 a1) (h2 : C1 a2) : C1 (.mk 6 [] [] [a1, a2]) := fun b r r' hb e hr hr' => by
 rw [KN, List.append_assoc] at e
 by_cases hb6 : b.kind = 6
 ·obtain ⟨b1, b2, rfl, k1, k2⟩ := MP hb hb6
  rw [KN] at e
  simp only [List.append_assoc] at e
  have hsp : ∀ z : Bytes, D2 ([32, 45, 62, 32] ++ z) := fun z => FD (by decide)
  obtain ⟨rfl, e2⟩ := h1 b1 _ _ k1 e (hsp _) (hsp _)
  obtain ⟨rfl, e3⟩ := h2 b2 r r' k2 (List.append_cancel_left e2) hr hr'
  exact ⟨rfl, e3⟩
 ·rw [V6 hb hb6] at e
  obtain ⟨_, e2⟩ := h1 b _ _ hb e (FD (by decide)) hr'.1
  exact absurd e2.symm (by rw [List.append_assoc]; exact hr'.2 _)
def oJ (qs : List TA) : Bytes := qs.flatMap fun q => [32, 124, 32] ++ prT q 1
theorem EM (q : TA) : ∀ qs : List TA, iM [32, 124, 32] (prL (q :: qs) 1) = prT q 1 ++ oJ qs
 | [] => by rw [prL, prL]; simp [iM, oJ]
 | p :: qs => by
  rw [prL, prL]
  have := EM p qs
  rw [prL] at this
  show prT q 1 ++ [32, 124, 32] ++ iM [32, 124, 32] (prT p 1 :: prL qs 1) = _
  rw [this]
  simp [oJ, List.append_assoc]
theorem Gc (q : TA) (qs : List TA) : prT (.mk 7 [] [] (q :: qs)) 0 = prT q 1 ++ oJ qs := by rw [zw _ (by simp)]; exact EM q qs
theorem wB {qs : List TA} {r : Bytes} (hr : D0 r) : D1 (oJ qs ++ r) := by
 cases qs with
 | nil => exact hr.1
 | cons q qs => exact ⟨FD (by decide), fun z e => by simp [oJ] at e⟩
theorem qo {a : TA} (ha : RT a) (h7 : a.kind ≠ 7) (h : C1 a) : C0 a := fun b r r' hb e hr hr' => by
 rw [V7 ha h7] at e
 by_cases hb7 : b.kind = 7
 ·obtain ⟨p, ps, rfl, hne, k1, k2⟩ := Hf hb hb7
  rw [Gc, List.append_assoc] at e
  obtain ⟨_, e2⟩ := h p _ _ (k1 p (by simp)) e hr.1 (wB hr')
  cases ps with
  | nil => exact absurd rfl hne
  | cons p' ps => exact absurd e2 (by simp only [oJ, List.flatMap_cons, List.append_assoc]; exact hr.2 _)
 ·rw [V7 hb hb7] at e
  exact h b r r' hb e hr.1 hr'.1
theorem Mf : ∀ {qs ps : List TA} {r r' : Bytes}, (∀ q ∈ qs, C1 q) → (∀ p ∈ ps, RT p) → D0 r → D0 r' → oJ qs ++ r = oJ ps ++ r' → qs = ps ∧ r = r'
 | [], [], r, r', _, _, _, _, e => ⟨rfl, e⟩
 | [], p :: ps, r, r', _, _, hr, _, e => absurd e (by simp only [oJ, List.flatMap_nil, List.nil_append, List.flatMap_cons, List.append_assoc]; exact hr.2 _)
 | q :: qs, [], r, r', _, _, _, hr', e => absurd e.symm (by simp only [oJ, List.flatMap_nil, List.nil_append, List.flatMap_cons, List.append_assoc]; exact hr'.2 _)
 | q :: qs, p :: ps, r, r', hq, hp, hr, hr', e => by
  have e1 : prT q 1 ++ (oJ qs ++ r) = prT p 1 ++ (oJ ps ++ r') := by
   simp only [oJ, List.flatMap_cons, List.append_assoc] at e
   have := List.append_cancel_left e
   simpa only [oJ] using this
  obtain ⟨rfl, e2⟩ := hq q (by simp) p _ _ (hp p (by simp)) e1 (wB hr) (wB hr')
  obtain ⟨rfl, e3⟩ := Mf (fun x hx => hq x (by simp [hx])) (fun x hx => hp x (by simp [hx])) hr hr' e2
  exact ⟨rfl, e3⟩
theorem W9 {q : TA} {qs : List TA} (hne : qs ≠ []) (h : ∀ x ∈ q :: qs, C1 x) : C0 (.mk 7 [] [] (q :: qs)) := fun b r r' hb e hr hr' => by
 rw [Gc, List.append_assoc] at e
 by_cases hb7 : b.kind = 7
 ·obtain ⟨p, ps, rfl, hne', k1, k2⟩ := Hf hb hb7
  rw [Gc, List.append_assoc] at e
  obtain ⟨rfl, e2⟩ := h q (by simp) p _ _ (k1 p (by simp)) e (wB hr) (wB hr')
  obtain ⟨rfl, e3⟩ := Mf (fun x hx => h x (by simp [hx])) (fun x hx => k1 x (by simp [hx])) hr hr' e2
  exact ⟨rfl, e3⟩
 ·rw [V7 hb hb7] at e
  obtain ⟨_, e2⟩ := h q (by simp) b _ _ hb e (wB hr) hr'.1
  cases qs with
  | nil => exact absurd rfl hne
  | cons q' qs => exact absurd e2.symm (by simp only [oJ, List.flatMap_cons, List.append_assoc]; exact hr'.2 _)
theorem Ke {a : TA} (ha : RT a) (k : a.kind = 6 ∨ a.kind = 7) (h : C0 a) : C2 a := fun b r r' hb e hr hr' => by
 have ea : prT a 2 = 40 :: (prT a 0 ++ [41]) := by
  cases beg ha with
  | word _ k' => rcases k with k | k <;> rw [k] at k' <;> simp at k'
  | dyn => rcases k with k | k <;> cases k
  | rcd => rcases k with k | k <;> cases k
  | par _ _ h => exact h
 rw [ea] at e
 have eb : prT b 2 = 40 :: (prT b 0 ++ [41]) := by
  cases beg hb with
  | word _ k' hne hw => exact absurd e.symm (jS hne hw (by decide))
  | dyn => rw [qV] at e; cases e
  | rcd _ _ z h' => rw [h'] at e; cases e
  | par _ _ h => exact h
 rw [eb] at e
 simp only [List.cons_append, List.append_assoc, List.cons.injEq, true_and] at e
 obtain ⟨e1, e2⟩ := h b _ _ hb e (Kc (by decide) (by decide)) (Kc (by decide) (by decide))
 exact ⟨e1, by simpa using e2⟩
def pJ : List Bytes → List TA → Bytes
 | n :: ns, t :: l => [44, 32] ++ (n ++ ([58, 32] ++ (prT t 0 ++ pJ ns l)))
 | _, _ => [125]
theorem uV : ∀ (n : Bytes) (ns : List Bytes) (t : TA) (l : List TA), iM [44, 32] (nu (n :: ns) (prL (t :: l) 0)) ++ [125] = n ++ ([58, 32] ++ (prT t 0 ++ pJ ns l))
 | n, [], t, l => by rw [prL]; simp [nu, iM, pJ]
 | n, m :: ns, t, [] => by rw [prL, prL]; simp [nu, iM, pJ]
 | n, m :: ns, t, u :: l => by
  have := uV m ns u l
  rw [prL, prL]
  rw [prL] at this
  show (n ++ [58, 32] ++ prT t 0) ++ [44, 32] ++ iM [44, 32] (nu (m :: ns) (prT u 0 :: prL l 0)) ++ [125] = _
  rw [List.append_assoc _ _ [125], this, pJ]
  simp [List.append_assoc]
theorem QW : ∀ {ns ns' : List Bytes} {l l' : List TA} {r r' : Bytes}, ns.length = l.length → ns'.length = l'.length → (∀ n ∈ ns, kD n) → (∀ n ∈ ns', kD n) → (∀ t ∈ l, C0 t) → (∀ t ∈ l', RT t) → pJ ns l ++ r = pJ ns' l' ++ r' → ns = ns' ∧ l = l' ∧ r = r'
 | [], [], [], [], r, r', _, _, _, _, _, _, e => ⟨rfl, rfl, by simpa [pJ] using e⟩
 | [], n :: ns, [], t :: l, r, r', _, _, _, _, _, _, e => by simp [pJ] at e
 | n :: ns, [], t :: l, [], r, r', _, _, _, _, _, _, e => by simp [pJ] at e
 | n :: ns, m :: ns', t :: l, u :: l', r, r', h1, h2, hn, hn', hc, hr, e => by
  rw [pJ, pJ] at e
  simp only [List.append_assoc] at e
  have e1 := List.append_cancel_left e
  clear e
  have hsp : ∀ z : Bytes, D2 ([58, 32] ++ z) := fun z => FD (by decide)
  obtain ⟨rfl, e2⟩ := FI (hn n (by simp)).2.1 (hn' m (by simp)).2.1 (hsp _) (hsp _) e1
  clear e1
  have e3 := List.append_cancel_left e2
  have hD : ∀ (ns : List Bytes) (l : List TA) (r : Bytes), D0 (pJ ns l ++ r) := fun ns l r => by
   match ns, l with
   | [], _ => exact Kc (by decide) (by decide)
   | _ :: _, [] => exact Kc (by decide) (by decide)
   | _ :: _, _ :: _ => exact Kc (by decide) (by decide)
  obtain ⟨rfl, e4⟩ := hc t (by simp) u _ _ (hr u (by simp)) e3 (hD _ _ _) (hD _ _ _)
  obtain ⟨rfl, rfl, e5⟩ := QW (by simpa using h1) (by simpa using h2) (fun x hx => hn x (by simp [hx])) (fun x hx => hn' x (by simp [hx])) (fun x hx => hc x (by simp [hx])) (fun x hx => hr x (by simp [hx])) e4
  exact ⟨rfl, rfl, e5⟩
theorem WY {ns : List Bytes} {l : List TA} (hl : ns.length = l.length) (hn : ∀ n ∈ ns, kD n) (h : ∀ t ∈ l, C0 t) : C2 (.mk 5 [] ns l) := fun b r r' hb e hr hr' => by
 rw [xg] at e
 cases hb with
 | rcd ns' l' hs' hl' hn' h' =>
  rw [xg] at e
  simp only [List.append_assoc] at e
  have e := List.append_cancel_left e
  match ns, l, ns', l' with
  | [], [], [], [] => exact ⟨rfl, by simpa [nu, iM] using e⟩
  | [], [], n :: ns', t :: l' =>
   rw [← List.append_assoc, ← List.append_assoc, uV] at e
   have : inA 125 bU = false := by decide
   exact absurd e.symm (by
    simp only [nu, prL, List.zipWith_nil_left, iM, List.nil_append, List.cons_append, List.append_assoc]
    exact jS (hn' n (by simp)).1 (hn' n (by simp)).2.1 this)
  | n :: ns, t :: l, [], [] =>
   rw [← List.append_assoc, ← List.append_assoc, uV] at e
   have : inA 125 bU = false := by decide
   exact absurd e (by
    simp only [nu, prL, List.zipWith_nil_left, iM, List.nil_append, List.cons_append, List.append_assoc]
    exact jS (hn n (by simp)).1 (hn n (by simp)).2.1 this)
  | n :: ns, t :: l, m :: ns', u :: l' =>
   rw [← List.append_assoc, ← List.append_assoc, uV, uV] at e
   obtain ⟨e1, e2, e3⟩ := QW (ns := n :: ns) (ns' := m :: ns') (l := t :: l) (l' := u :: l') (r := r) (r' := r') hl hl' hn hn' h h' (by rw [pJ, pJ]; simp only [List.append_assoc] at e ⊢; rw [e])
   exact ⟨by rw [e1, e2], e3⟩
  | [], _ :: _, _, _ => cases hl
  | _ :: _, [], _, _ => cases hl
  | _, _, [], _ :: _ => cases hl'
  | _, _, _ :: _, [] => cases hl'
 | int => rw [sQ] at e; cases e
 | bool => rw [qG] at e; cases e
 | text => rw [qF] at e; cases e
 | dyn => rw [qV] at e; cases e
 | fn a b => rw [Ep] at e; cases e
 | uni l' h2 =>
  have : l' ≠ [] := by rintro rfl; simp at h2
  rw [zw _ this] at e; cases e
 | ref nm h => rw [sP] at e; exact absurd e.symm (jS h.1 h.2.1 (by decide))
theorem Br {a : TA} (ha : RT a) (k : a.kind = 1 ∨ a.kind = 2 ∨ a.kind = 3 ∨ a.kind = 8) : C2 a := fun b r r' hb e hr hr' => by
 have hw : prT a 2 ≠ [] ∧ ∀ c ∈ prT a 2, inA c bU = true := by
  cases beg ha with
  | word _ _ hne h => exact ⟨hne, h⟩
  | dyn => rcases k with k | k | k | k <;> cases k
  | rcd => rcases k with k | k | k | k <;> cases k
  | par _ k' => rcases k' with k' | k' <;> rw [k'] at k <;> simp at k
 cases beg hb with
 | word _ k' hne hw' =>
  obtain ⟨e1, e2⟩ := FI hw.2 hw' hr hr' e
  refine ⟨?_, e2⟩
  cases ha <;> (try (rcases k with k | k | k | k <;> cases k; done)) <;> cases hb <;> (try (rcases k' with k' | k' | k' | k' <;> cases k'; done)) <;>
   simp only [sQ, qG, qF, sP] at e1 <;> (try (exact absurd e1 (by decide))) <;> (try rfl)
  ·rename_i nm h; exact absurd e1.symm h.2.2.1
  ·rename_i nm h; exact absurd e1.symm h.2.2.2.1
  ·rename_i nm h; exact absurd e1.symm h.2.2.2.2
  ·rename_i nm h; exact absurd e1 h.2.2.1
  ·rename_i nm h; exact absurd e1 h.2.2.2.1
  ·rename_i nm h; exact absurd e1 h.2.2.2.2
  ·rw [e1]
 | dyn => rw [qV] at e; exact absurd e (jS hw.1 hw.2 (by decide))
 | rcd _ _ z h => rw [h] at e; exact absurd e (jS hw.1 hw.2 (by decide))
 | par _ _ h => rw [h] at e; exact absurd e (jS hw.1 hw.2 (by decide))
theorem WZ : C2 (.mk 4 [] [] []) := fun b r r' hb e hr hr' => by
 rw [qV] at e
 cases beg hb with
 | word _ _ hne h => exact absurd e.symm (jS hne h (by decide))
 | dyn => rw [qV] at e; exact ⟨rfl, by simpa using e⟩
 | rcd _ _ z h => rw [h] at e; cases e
 | par _ _ h => rw [h] at e; cases e
theorem reads {a : TA} (h : RT a) : C2 a ∧ C1 a ∧ C0 a := by
 induction h with
 | int => have h := RT.int; have c2 := Br h (.inl rfl); have c1 := qm h (by decide) c2; exact ⟨c2, c1, qo h (by decide) c1⟩
 | bool => have h := RT.bool; have c2 := Br h (.inr (.inl rfl)); have c1 := qm h (by decide) c2; exact ⟨c2, c1, qo h (by decide) c1⟩
 | text => have h := RT.text; have c2 := Br h (.inr (.inr (.inl rfl))); have c1 := qm h (by decide) c2; exact ⟨c2, c1, qo h (by decide) c1⟩
 | dyn => have h := RT.dyn; have c2 := WZ; have c1 := qm h (by decide) c2; exact ⟨c2, c1, qo h (by decide) c1⟩
 | ref nm hn => have h := RT.ref nm hn; have c2 := Br h (.inr (.inr (.inr rfl))); have c1 := qm h (by simp [TA.kind]) c2; exact ⟨c2, c1, qo h (by simp [TA.kind]) c1⟩
 | rcd ns l hs hl hn hr ih =>
  have h := RT.rcd ns l hs hl hn hr
  have c2 := WY hl hn fun t ht => (ih t ht).2.2
  have c1 := qm h (by simp [TA.kind]) c2
  exact ⟨c2, c1, qo h (by simp [TA.kind]) c1⟩
 | fn a b ha hb iha ihb =>
  have h := RT.fn a b ha hb
  have c1 := C1_fn iha.1 ihb.2.1
  have c0 := qo h (by simp [TA.kind]) c1
  exact ⟨Ke h (.inl rfl) c0, c1, c0⟩
 | uni l h2 hr h7 ih =>
  have h := RT.uni l h2 hr h7
  match l, h2 with
  | q :: p :: qs, _ =>
   have c0 := W9 (q := q) (qs := p :: qs) (by simp) fun x hx => (ih x hx).2.1
   have c2 := Ke h (.inr rfl) c0
   exact ⟨c2, qm h (by simp [TA.kind]) c2, c0⟩
theorem TK {a b : TA} (ha : RT a) (hb : RT b) (e : prT a 0 = prT b 0) : a = b := by
 have hD : D0 [] := ⟨⟨fun c z e => (by cases e), fun z e => (by cases e)⟩, fun z e => (by cases e)⟩
 exact ((reads ha).2.2 b [] [] hb (by rw [List.append_nil, List.append_nil]; exact e) hD hD).1
end Go.Ag
/- Good types, and what is made normal of them. -/
namespace Go.Ag
open Go
inductive GT : TA → Prop where
 | int : GT (.mk 1 [] [] [])
 | bool : GT (.mk 2 [] [] [])
 | text : GT (.mk 3 [] [] [])
 | dyn : GT (.mk 4 [] [] [])
 | rcd (ns : List Bytes) (l : List TA) (hs : ns.Pairwise (· < ·)) (hl : ns.length = l.length) (hn : ∀ n ∈ ns, kD n) (h : ∀ t ∈ l, GT t) : GT (.mk 5 [] ns l)
 | fn (a b : TA) (ha : GT a) (hb : GT b) : GT (.mk 6 [] [] [a, b])
 | uni (l : List TA) (h0 : l ≠ []) (h : ∀ t ∈ l, GT t) : GT (.mk 7 [] [] l)
 | ref (nm : Bytes) (h : kD nm) : GT (.mk 8 nm [] [])
inductive NT : TA → Prop where
 | int : NT (.mk 1 [] [] [])
 | bool : NT (.mk 2 [] [] [])
 | text : NT (.mk 3 [] [] [])
 | dyn : NT (.mk 4 [] [] [])
 | rcd (ns : List Bytes) (l : List TA) (hs : ns.Pairwise (· < ·)) (hl : ns.length = l.length) (hn : ∀ n ∈ ns, kD n) (h : ∀ t ∈ l, NT t) : NT (.mk 5 [] ns l)
 | fn (a b : TA) (ha : NT a) (hb : NT b) : NT (.mk 6 [] [] [a, b])
 | uni (l : List TA) (h2 : 2 ≤ l.length) (h : ∀ t ∈ l, NT t) (h7 : ∀ t ∈ l, t.kind ≠ 7 ∧ t.kind ≠ 4) (hs : l.Pairwise fun a b => prT a 0 < prT b 0) : NT (.mk 7 [] [] l)
 | ref (nm : Bytes) (h : kD nm) : NT (.mk 8 nm [] [])
theorem NT.rt {t : TA} (h : NT t) : RT t := by
 induction h with
 | int => exact .int
 | bool => exact .bool
 | text => exact .text
 | dyn => exact .dyn
 | rcd ns l hs hl hn h ih => exact .rcd ns l hs hl hn ih
 | fn a b ha hb iha ihb => exact .fn a b iha ihb
 | uni l h2 h h7 hs ih => exact .uni l h2 ih fun t ht => (h7 t ht).1
 | ref nm h => exact .ref nm h
theorem NT.gt {t : TA} (h : NT t) : GT t := by
 induction h with
 | int => exact .int
 | bool => exact .bool
 | text => exact .text
 | dyn => exact .dyn
 | rcd ns l hs hl hn h ih => exact .rcd ns l hs hl hn ih
 | fn a b ha hb iha ihb => exact .fn a b iha ihb
 | uni l h2 h h7 hs ih => exact .uni l (by rintro rfl; simp at h2) ih
 | ref nm h => exact .ref nm h
theorem NT.inj {a b : TA} (ha : NT a) (hb : NT b) (e : prT a 0 = prT b 0) : a = b := TK ha.rt hb.rt e
theorem NT.parts {t : TA} (h : NT t) : ∀ x ∈ t.l, NT x := by
 cases h with
 | rcd ns l hs hl hn h => exact h
 | fn a b ha hb =>
  intro x hx
  simp only [TA.l, List.mem_cons, List.not_mem_nil, or_false] at hx
  rcases hx with rfl | rfl
  ·exact ha
  ·exact hb
 | uni l h2 h h7 hs => exact h
 | _ => intro x hx; cases hx
theorem NT.wf {t : TA} (h : NT t) : wfT t := by
 have hL : ∀ {l : List TA}, (∀ t ∈ l, wfT t) → wfL l := fun {l} hl => by
  induction l with
  | nil => trivial
  | cons x l ih => exact ⟨hl x (by simp), ih fun t ht => hl t (by simp [ht])⟩
 induction h with
 | rcd ns l hs hl hn h ih => exact ⟨fun _ => by omega, fun h => (by cases h), hL ih⟩
 | fn a b ha hb iha ihb => exact ⟨fun h => (by cases h), fun _ => Nat.le_refl 2, iha, ihb, trivial⟩
 | uni l h2 h h7 hs ih => exact ⟨fun h => (by cases h), fun h => (by cases h), hL ih⟩
 | _ => exact ⟨fun h => (by cases h), fun h => (by cases h), trivial⟩
theorem NT.Dg {t : TA} (h : NT t) (h4 : t.kind = 4) : t = dQ := by cases h <;> first | (cases h4; done) | rfl
theorem yR {α : Type} : ∀ (l : List (α × Bytes)) (p : Bytes), l.Pairwise (fun a b => a.2 ≤ b.2) → (∀ y ∈ l, p ≤ y.2) → (kF p l).Pairwise (fun a b => a.2 < b.2) ∧ ∀ y ∈ kF p l, p < y.2 ∧ y ∈ l
 | [], p, _, _ => ⟨by simp [kF], fun y hy => by simp [kF] at hy⟩
 | x :: l, p, hs, hp => by
  obtain ⟨h1, h2⟩ := List.pairwise_cons.1 hs
  obtain ⟨k1, k2⟩ := yR l x.2 h2 h1
  rw [kF]
  split
  ·rename_i he
   have he : x.2 = p := by simpa using he
   exact ⟨k1, fun y hy => ⟨by rw [← he]; exact (k2 y hy).1, by simp [(k2 y hy).2]⟩⟩
  ·rename_i he
   have he : x.2 ≠ p := by simpa using he
   have hlt : p < x.2 := by
    have := hp x (by simp)
    by_cases h : p < x.2
    ·exact h
    ·exact absurd (List.le_antisymm (List.not_lt.1 h) this) he
   refine ⟨List.pairwise_cons.2 ⟨fun y hy => (k2 y hy).1, k1⟩, fun y hy => ?_⟩
   rcases List.mem_cons.1 hy with rfl | hy
   ·exact ⟨hlt, by simp⟩
   ·exact ⟨List.lt_trans hlt (k2 y hy).1, by simp [(k2 y hy).2]⟩
theorem AA {α : Type} {l : List (α × Bytes)} (hs : l.Pairwise fun a b => a.2 ≤ b.2) : (fJ l).Pairwise (fun a b => a.2 < b.2) ∧ ∀ y ∈ fJ l, y ∈ l := by
 cases l with
 | nil => exact ⟨by simp [fJ], fun y hy => by simp [fJ] at hy⟩
 | cons x l =>
  obtain ⟨h1, h2⟩ := List.pairwise_cons.1 hs
  obtain ⟨k1, k2⟩ := yR l x.2 h2 h1
  exact ⟨List.pairwise_cons.2 ⟨fun y hy => (k2 y hy).1, k1⟩, fun y hy => by
   rcases List.mem_cons.1 hy with rfl | hy
   ·simp
   ·simp [(k2 y hy).2]⟩
theorem Fe {α : Type} : ∀ (l : List (α × Bytes)) (p : Bytes), ∀ y ∈ l, y.2 = p ∨ ∃ z ∈ kF p l, z.2 = y.2
 | x :: l, p, y, hy => by
  rw [kF]
  have ih := Fe l x.2
  split
  ·rename_i he
   have he : x.2 = p := by simpa using he
   rcases List.mem_cons.1 hy with rfl | hy
   ·exact .inl he
   ·rcases ih y hy with h | h
    ·exact .inl (h.trans he)
    ·exact .inr h
  ·rcases List.mem_cons.1 hy with rfl | hy
   ·exact .inr ⟨y, by simp, rfl⟩
   ·rcases ih y hy with h | ⟨z, hz, h⟩
    ·exact .inr ⟨x, by simp, h.symm⟩
    ·exact .inr ⟨z, by simp [hz], h⟩
theorem Rk {α : Type} {l : List (α × Bytes)} : ∀ y ∈ l, ∃ z ∈ fJ l, z.2 = y.2 := fun y hy => by
 cases l with
 | nil => cases hy
 | cons x l =>
  rcases List.mem_cons.1 hy with rfl | hy
  ·exact ⟨y, by simp [fJ], rfl⟩
  ·rcases Fe l x.2 y hy with h | ⟨z, hz, h⟩
   ·exact ⟨x, by simp [fJ], h.symm⟩
   ·exact ⟨z, by simp [fJ, hz], h⟩
def fP (l : List TA) : List TA := (fJ (mo (eO l))).map (·.1)
theorem Bj {l : List TA} : ∀ p ∈ fJ (mo (eO l)), p.2 = prT p.1 0 ∧ p.1 ∈ l := fun p hp => by
 have h1 := (AA (sK (eO l))).2 p hp
 have h2 := (mY (eO l)).mem_iff.1 h1
 obtain ⟨t, ht, rfl⟩ := List.mem_map.1 h2
 exact ⟨rfl, ht⟩
theorem jE (l : List TA) : (fP l).Pairwise fun a b => prT a 0 < prT b 0 := by
 unfold fP
 rw [List.pairwise_map]
 refine (AA (sK (eO l))).1.imp_of_mem fun {a b} ha hb h => ?_
 rw [← (Bj a ha).1, ← (Bj b hb).1]
 exact h
theorem kr {l : List TA} {t : TA} (h : t ∈ fP l) : t ∈ l := by
 obtain ⟨p, hp, rfl⟩ := List.mem_map.1 h
 exact (Bj p hp).2
theorem Ch {l : List TA} {t : TA} (h : t ∈ l) : ∃ u ∈ fP l, prT u 0 = prT t 0 := by
 obtain ⟨z, hz, e⟩ := Rk (l := mo (eO l)) (t, prT t 0) ((mY (eO l)).mem_iff.2 (List.mem_map.2 ⟨t, h, rfl⟩))
 exact ⟨z.1, List.mem_map.2 ⟨z, hz, rfl⟩, by rw [← (Bj z hz).1]; exact e⟩
theorem rJ {l : List TA} (h : l ≠ []) : fP l ≠ [] := by
 cases l with
 | nil => exact absurd rfl h
 | cons t l =>
  obtain ⟨u, hu, _⟩ := Ch (l := t :: l) (t := t) (by simp)
  intro e
  rw [e] at hu; cases hu
theorem sU {l : List TA} (hl : ∀ t ∈ l, NT t) {t : TA} : t ∈ fP l ↔ t ∈ l := by
 refine ⟨kr, fun h => ?_⟩
 obtain ⟨u, hu, e⟩ := Ch h
 have := (hl u (kr hu)).inj (hl t h) e
 rw [← this]; exact hu
def l9 : List TA → TA
 | [t] => t
 | l => .mk 7 [] [] l
theorem mR (l : List TA) : l8 l = match (aP l).find? (fun t => t.kind == 4) with
  | some t => t
  | none => l9 (fP (aP l)) := by
 unfold l8
 split
 ·rename_i t h; rw [h]
 ·rename_i h
  rw [h]
  unfold fP
  match fJ (mo (eO (aP l))) with
  | [] => rfl
  | [p] => rfl
  | p :: q :: r => rfl
theorem o7 {l : List TA} {x : TA} : x ∈ aP l ↔ ∃ t ∈ l, x ∈ dP t := by unfold aP; rw [List.mem_flatMap]
theorem Es {t : TA} (h : NT t) : (∀ x ∈ dP t, NT x ∧ x.kind ≠ 7) ∧ dP t ≠ [] := by
 unfold dP
 split
 ·rename_i h7
  cases h with
  | uni l h2 h h7' hs => exact ⟨fun x hx => ⟨h x hx, (h7' x hx).1⟩, by rintro e; simp only [TA.l] at e; subst e; simp at h2⟩
  | _ => cases h7
 ·rename_i h7
  exact ⟨fun x hx => by rw [List.mem_singleton] at hx; subst hx; exact ⟨h, h7⟩, by simp⟩
theorem rZ {l : List TA} (h : ∀ t ∈ l, NT t) : ∀ x ∈ aP l, NT x ∧ x.kind ≠ 7 := fun x hx => by
 obtain ⟨t, ht, hx⟩ := o7.1 hx
 exact (Es (h t ht)).1 x hx
theorem Jv {l : List TA} (h : ∀ t ∈ l, NT t) (h0 : l ≠ []) : aP l ≠ [] := by
 cases l with
 | nil => exact absurd rfl h0
 | cons t l =>
  have := (Es (h t (by simp))).2
  cases hp : dP t with
  | nil => exact absurd hp this
  | cons x xs =>
   intro e
   have : x ∈ aP (t :: l) := o7.2 ⟨t, by simp, by rw [hp]; simp⟩
   rw [e] at this; cases this
theorem D5 {l : List TA} (h0 : l ≠ []) (h : ∀ t ∈ l, NT t ∧ t.kind ≠ 7 ∧ t.kind ≠ 4) (hs : l.Pairwise fun a b => prT a 0 < prT b 0) : NT (l9 l) := by
 match l, h0 with
 | [t], _ => exact (h t (by simp)).1
 | t :: u :: l, _ => exact .uni _ (by simp) (fun x hx => (h x hx).1) (fun x hx => (h x hx).2) hs
theorem NI {l : List TA} (h : ∀ t ∈ l, NT t) (h0 : l ≠ []) : NT (l8 l) := by
 rw [mR]
 have hf := rZ h
 cases hd : (aP l).find? (fun t => t.kind == 4) with
 | some t => exact (hf t (List.mem_of_find?_eq_some hd)).1
 | none =>
  refine D5 (rJ (Jv h h0)) (fun t ht => ?_) (jE _)
  have hm := kr ht
  exact ⟨(hf t hm).1, (hf t hm).2, by have := List.find?_eq_none.1 hd t hm; simpa using this⟩
theorem mF {t : TA} (h : GT t) : NT (aM t) := by
 induction h with
 | int => rw [aM, if_neg (by decide), dx]; exact .int
 | bool => rw [aM, if_neg (by decide), dx]; exact .bool
 | text => rw [aM, if_neg (by decide), dx]; exact .text
 | dyn => rw [aM, if_neg (by decide), dx]; exact .dyn
 | ref nm hn => rw [aM, if_neg (by decide), dx]; exact .ref nm hn
 | rcd ns l hs hl hn h ih =>
  rw [aM, if_neg (by decide), eB]
  refine .rcd ns _ hs (by rw [List.length_map]; exact hl) hn fun x hx => ?_
  obtain ⟨t, ht, rfl⟩ := List.mem_map.1 hx
  exact ih t ht
 | fn a b ha hb iha ihb => rw [aM, if_neg (by decide), eB]; exact .fn _ _ iha ihb
 | uni l h0 h ih =>
  rw [aM, if_pos rfl, eB]
  refine NI (fun x hx => ?_) (by simpa using h0)
  obtain ⟨t, ht, rfl⟩ := List.mem_map.1 hx
  exact ih t ht
theorem AY {l : List TA} (hs : l.Pairwise fun a b => prT a 0 < prT b 0) : fJ (mo (eO l)) = eO l := by
 have h1 : mo (eO l) = eO l := by
  have hsl : (eO l).Pairwise fun a b => a.2 ≤ b.2 := by
   unfold eO
   rw [List.pairwise_map]
   exact hs.imp fun h => List.le_of_lt h
  exact (xX (List.Perm.refl _) hsl fun a ha b hb e => by
   obtain ⟨t, ht, rfl⟩ := List.mem_map.1 ha
   obtain ⟨u, hu, rfl⟩ := List.mem_map.1 hb
   obtain ⟨i, hi, rfl⟩ := List.getElem_of_mem ht
   obtain ⟨j, hj, rfl⟩ := List.getElem_of_mem hu
   have hp := List.pairwise_iff_getElem.1 hs
   rcases Nat.lt_trichotomy i j with h | h | h
   ·have := hp i j hi hj h
    dsimp only at e
    rw [e] at this; exact absurd this (List.lt_irrefl _)
   ·subst h; rfl
   ·have := hp j i hj hi h
    dsimp only at e
    rw [e] at this; exact absurd this (List.lt_irrefl _)).symm
 rw [h1]
 have key : ∀ (l : List TA) (p : Bytes), (∀ t ∈ l, p < prT t 0) → l.Pairwise (fun a b => prT a 0 < prT b 0) → kF p (eO l) = eO l := by
  intro l
  induction l with
  | nil => intro p _ _; simp [eO, kF]
  | cons t l ih =>
   intro p hp hs
   obtain ⟨k1, k2⟩ := List.pairwise_cons.1 hs
   have h2 := ih (prT t 0) k1 k2
   unfold eO at h2 ⊢
   rw [List.map_cons, kF, if_neg, h2]
   have := hp t (by simp)
   simp only [beq_iff_eq]
   rintro e
   rw [e] at this; exact List.lt_irrefl _ this
 cases l with
 | nil => simp [eO, fJ]
 | cons t l =>
  obtain ⟨k1, k2⟩ := List.pairwise_cons.1 hs
  have := key l (prT t 0) k1 k2
  unfold eO at this ⊢
  rw [List.map_cons, fJ, this]
theorem uX {l : List TA} (h : ∀ t ∈ l, t.kind ≠ 7) : aP l = l := by
 induction l with
 | nil => rfl
 | cons t l ih =>
  have := ih fun x hx => h x (by simp [hx])
  unfold aP at this ⊢
  rw [List.flatMap_cons, this]
  unfold dP
  rw [if_neg (h t (by simp))]
  rfl
theorem pU {t : TA} (h : NT t) : aM t = t := by
 induction h with
 | int => rw [aM, if_neg (by decide), dx]
 | bool => rw [aM, if_neg (by decide), dx]
 | text => rw [aM, if_neg (by decide), dx]
 | dyn => rw [aM, if_neg (by decide), dx]
 | ref nm hn => rw [aM, if_neg (by decide), dx]
 | rcd ns l hs hl hn h ih =>
  rw [aM, if_neg (by decide), eB]
  congr 1
  exact (List.map_congr_left (g := id) ih).trans (List.map_id l)
 | fn a b ha hb iha ihb => rw [aM, if_neg (by decide), eB]; simp [iha, ihb]
 | uni l h2 h h7 hs ih =>
  have e1 : l.map aM = l := (List.map_congr_left (g := id) ih).trans (List.map_id l)
  rw [aM, if_pos rfl, eB, e1, mR, uX fun t ht => (h7 t ht).1]
  have e2 : l.find? (fun t => t.kind == 4) = none := List.find?_eq_none.2 fun t ht => by have := (h7 t ht).2; simpa using this
  rw [e2]
  have e3 : fP l = l := by
   unfold fP
   rw [AY hs]
   unfold eO
   rw [List.map_map]
   exact (List.map_congr_left (g := id) fun x _ => rfl).trans (List.map_id l)
  dsimp only
  rw [e3]
  match l, h2 with
  | t :: u :: l, _ => rfl
end Go.Ag
/- How much good types are; that they can be made normal. -/
namespace Go.Ag
open Go
theorem sG (l : List TA) : wtL l = (l.map fun t => wtT t + 8).sum := by
 induction l with
 | nil => rfl
 | cons t l ih => rw [wtL, List.map_cons, List.sum_cons, ih]
theorem mQ (l m : List TA) : wtL (l ++ m) = wtL l + wtL m := by simp [sG]
theorem BD (t : TA) : wtL t.l + 16 ≤ wtT t := by obtain ⟨k, nm, ns, l⟩ := t; rw [wtT]; simp only [TA.l]; omega
theorem ru (t : TA) : wtL (dP t) ≤ wtT t + 8 := by
 unfold dP
 have := BD t
 split
 ·omega
 ·rw [wtL, wtL]; omega
theorem L9 (l : List TA) : wtL (aP l) ≤ wtL l := by
 induction l with
 | nil => exact Nat.le_refl _
 | cons t l ih =>
  have h1 : aP (t :: l) = dP t ++ aP l := by unfold aP; rw [List.flatMap_cons]
  rw [h1, mQ, wtL]
  have := ru t
  omega
theorem Fb {α : Type} : ∀ (l : List (α × Bytes)) (p : Bytes), (kF p l).Sublist l
 | [], p => by simp [kF]
 | x :: l, p => by
  rw [kF]
  have := Fb l x.2
  split
  ·exact this.cons _
  ·exact this.cons_cons _
theorem JK {α : Type} (l : List (α × Bytes)) : (fJ l).Sublist l := by
 cases l with
 | nil => simp [fJ]
 | cons x l => exact (Fb l x.2).cons_cons _
theorem z8 {α : Type} (f : α → Nat) {l m : List α} (h : l.Sublist m) : (l.map f).sum ≤ (m.map f).sum := by
 induction h with
 | slnil => exact Nat.le_refl _
 | cons x h ih => rw [List.map_cons, List.sum_cons]; omega
 | cons_cons x h ih => rw [List.map_cons, List.map_cons, List.sum_cons, List.sum_cons]; omega
theorem NC (l : List TA) : wtL (fP l) ≤ wtL l := by
 unfold fP
 rw [sG, List.map_map]
 have h1 := z8 (fun p : TA × Bytes => wtT p.1 + 8) (JK (mo (eO l)))
 have h2 := ((mY (eO l)).map fun p : TA × Bytes => wtT p.1 + 8).sum_nat
 have h3 : ((eO l).map fun p : TA × Bytes => wtT p.1 + 8).sum = wtL l := by
  unfold eO
  rw [List.map_map, sG]; rfl
 have h4 : ((fJ (mo (eO l))).map ((fun t => wtT t + 8) ∘ fun x => x.1)).sum = ((fJ (mo (eO l))).map fun p : TA × Bytes => wtT p.1 + 8).sum := rfl
 omega
theorem NA (l : List TA) : wtT (l8 l) ≤ 16 + wtL l := by
 rw [mR]
 have hf := L9 l
 split
 ·rename_i t h
  have := gP (List.mem_of_find?_eq_some h)
  omega
 ·have hp := NC (aP l)
  generalize fP (aP l) = m at hp
  match m with
  | [] => simp only [l9]; rw [wtT]; simp [wtL]
  | [t] => simp only [l9]; rw [wtL, wtL] at hp; omega
  | t :: u :: m => simp only [l9]; rw [wtT]; simp only [List.length_nil, List.map_nil, List.sum_nil]; omega
theorem L6 : ∀ (n : Nat) (t : TA), wtT t ≤ n → wtT (aM t) ≤ wtT t
 | 0, t, h => by have := BD t; omega
 | n + 1, t, h => by
  have ih := L6 n
  obtain ⟨k, nm, ns, l⟩ := t
  rw [wtT] at h
  have hl : wtL (dx l) ≤ wtL l := by
   have hm : ∀ t ∈ l, wtT t ≤ n := fun t ht => by have := gP ht; omega
   clear h
   induction l with
   | nil => rw [dx]; exact Nat.le_refl _
   | cons t l ihl =>
    rw [dx, wtL, wtL]
    have h1 := ih t (hm t (by simp))
    have h2 := ihl fun x hx => hm x (by simp [hx])
    omega
  rw [aM]
  split
  ·have := NA (dx l)
   rw [wtT]; omega
  ·rw [wtT, wtT]; omega
theorem kX (t : TA) : wtT (aM t) ≤ wtT t := L6 _ t (Nat.le_refl _)
theorem Pz (l : List TA) : wtL (dx l) ≤ wtL l := by
 induction l with
 | nil => rw [dx]; exact Nat.le_refl _
 | cons t l ih => rw [dx, wtL, wtL]; have := kX t; omega
theorem ns_le (ns : List Bytes) : ns.length ≤ (ns.map fun n => n.length + 4).sum := by
 induction ns with
 | nil => exact Nat.le_refl _
 | cons n ns ih => rw [List.map_cons, List.sum_cons, List.length_cons]; omega
theorem Iu {l : List TA} (h : ∀ t ∈ l, NT t) (hl : l.length ≤ 2 ^ 30) (hp : ∀ t ∈ l, wtT t ≤ 2 ^ 30) (ha : (aP l).length ≤ 2 ^ 30) : GY l := by
 have hm : ∀ t ∈ aP l, ∃ u ∈ l, wtT t ≤ wtT u + 8 := fun t ht => by
  obtain ⟨u, hu, hx⟩ := o7.1 ht
  have h1 := gP hx
  have h2 := ru u
  exact ⟨u, hu, by omega⟩
 refine ⟨hl, fun t ht => ?_, ha, fun t ht => ?_, fun t ht => (rZ h t ht).1.wf, fun a ha b hb e => (rZ h a ha).1.inj (rZ h b hb).1 e⟩
 ·have h1 := hp t ht
  have h2 := BD t
  have h3 := oQ t.l
  omega
 ·obtain ⟨u, hu, h1⟩ := hm t ht
  have := hp u hu
  omega
theorem Ck {t : TA} (h : GT t) : wtT t ≤ 2 ^ 30 → okN t := by
 have hL : ∀ {l : List TA}, (∀ t ∈ l, okN t) → Oi l := fun {l} hl => by
  induction l with
  | nil => trivial
  | cons x l ih => exact ⟨hl x (by simp), ih fun t ht => hl t (by simp [ht])⟩
 have hlt : ∀ {l : List TA} {t : TA} {n : Nat}, t ∈ l → wtL l ≤ n → wtT t ≤ n := fun ht hn => by have := gP ht; omega
 induction h with
 | int => intro _; exact ⟨by simp, by simp, trivial, fun h => by cases h⟩
 | bool => intro _; exact ⟨by simp, by simp, trivial, fun h => by cases h⟩
 | text => intro _; exact ⟨by simp, by simp, trivial, fun h => by cases h⟩
 | dyn => intro _; exact ⟨by simp, by simp, trivial, fun h => by cases h⟩
 | ref nm hn => intro _; exact ⟨by simp, by simp, trivial, fun h => by cases h⟩
 | rcd ns l hs hl hn h ih =>
  intro hw
  rw [wtT] at hw
  have h1 := oQ l
  have h2 := ns_le ns
  exact ⟨by omega, by omega, hL fun t ht => ih t ht (hlt ht (by omega)), fun h => by cases h⟩
 | fn a b ha hb iha ihb =>
  intro hw
  rw [wtT, wtL, wtL, wtL] at hw
  exact ⟨by simp, by simp, ⟨iha (by omega), ihb (by omega), trivial⟩, fun h => by cases h⟩
 | uni l h0 h ih =>
  intro hw
  rw [wtT] at hw
  have h1 := oQ l
  have h3 := Pz l
  have h4 := L9 (dx l)
  have h5 := oQ (aP (dx l))
  refine ⟨by omega, by simp, hL fun t ht => ih t ht (hlt ht (by omega)), fun _ => Iu (fun t ht => ?_) (by rw [eB, List.length_map]; omega) (fun t ht => hlt ht (by omega)) (by omega)⟩
  rw [eB] at ht
  obtain ⟨u, hu, rfl⟩ := List.mem_map.1 ht
  exact mF (h u hu)
theorem Cj {l : List TA} (h : ∀ t ∈ l, NT t) (hl : l.length ≤ 2 ^ 30) (hw : ∀ t ∈ l, wtT t ≤ 2 ^ 30) (ha : (aP l).length ≤ 2 ^ 30) : okN (.mk 7 [] [] l) := by
 have hL : ∀ {l : List TA}, (∀ t ∈ l, okN t) → Oi l := fun {l} hl => by
  induction l with
  | nil => trivial
  | cons x l ih => exact ⟨hl x (by simp), ih fun t ht => hl t (by simp [ht])⟩
 have e1 : dx l = l := by rw [eB]; exact (List.map_congr_left (g := id) fun t ht => pU (h t ht)).trans (List.map_id l)
 exact ⟨hl, by simp, hL fun t ht => Ck (h t ht).gt (hw t ht), fun _ => by rw [e1]; exact Iu h hl hw ha⟩
theorem CK {l : List TA} (h : ∀ t ∈ l, NT t ∧ t.kind ≠ 7) (h0 : l ≠ []) :
  kP l = (match l.find? (fun t => t.kind == 4) with
   | some t => t
   | none => l9 (fP l)) := by
 unfold kP
 have e1 : dx l = l := by rw [eB]; exact (List.map_congr_left (g := id) fun t ht => pU (h t ht).1).trans (List.map_id l)
 rw [aM, if_pos rfl, e1, mR, uX fun t ht => (h t ht).2]
 try rfl
def qL (l : List TA) : List TA := if l.any (fun t => t.kind == 4) then [dQ] else fP l
theorem Lh {l : List TA} (h : ∀ t ∈ l, NT t ∧ t.kind ≠ 7) (h0 : l ≠ []) : Gx (kP l) = qL l := by
 have hj := CK h h0
 unfold qL
 cases hd : l.find? (fun t => t.kind == 4) with
 | some t =>
  rw [hd] at hj
  have h4 : t.kind = 4 := by simpa using List.find?_some (p := fun t : TA => t.kind == 4) hd
  have hm := List.mem_of_find?_eq_some hd
  have := (h t hm).1.Dg h4
  subst this
  rw [if_pos (List.any_eq_true.2 ⟨dQ, hm, rfl⟩), hj]
  rfl
 | none =>
  rw [hd] at hj
  have hj : kP l = l9 (fP l) := hj
  have hn : l.any (fun t => t.kind == 4) = false := by
   rw [List.any_eq_false]
   exact List.find?_eq_none.1 hd
  rw [hn, if_neg (by simp), hj]
  have hmem : ∀ t ∈ fP l, t.kind ≠ 7 := fun t ht => (h t (kr ht)).2
  have hne := rJ h0
  generalize fP l = m at hmem hne
  unfold Gx
  match m, hne with
  | [t], _ => exact if_neg (hmem t (by simp))
  | t :: u :: m, _ => rfl
theorem Jf {l : List TA} {t : TA} (h : t ∈ qL l) : t = dQ ∨ t ∈ l := by
 unfold qL at h
 split at h
 ·rw [List.mem_singleton] at h; exact .inl h
 ·exact .inr (kr h)
end Go.Ag
/- The judge's answer, in plain Lean: it holds just if some sound relation holds. -/
namespace Go.Ag
open Go
section
variable (G : TA → Prop) (hd : TA → List TA) (tx : TA → Bytes) (loose : Bool)
end
variable {G : TA → Prop} {hd : TA → List TA} {tx : TA → Bytes} {loose : Bool}
theorem EY {σ α : Type} {st : σ → α → Option (Bool × σ)} {I : σ → Prop} {Gr : σ → σ → Prop} (hr : ∀ s, I s → Gr s s) (ht : ∀ a b c, Gr a b → Gr b c → Gr a c) : ∀ (l : List α), (∀ s x b s', x ∈ l → I s → st s x = some (b, s') → I s' ∧ Gr s s') → ∀ s b s', I s → mM st s l = some (b, s') →
  I s' ∧ Gr s s' ∧ (b = true → ∀ x ∈ l, ∃ s1 s2, I s1 ∧ st s1 x = some (true, s2) ∧ Gr s2 s') ∧ (b = false → ∃ x ∈ l, ∃ s1, I s1 ∧ st s1 x = some (false, s'))
 | [], _, s, b, s', h, e => by cases e; exact ⟨h, hr _ h, fun _ x hx => (by cases hx), fun h => (by cases h)⟩
 | x :: l, hs, s, b, s', h, e => by
  rw [mM] at e
  cases hq : st s x with
  | none => rw [hq] at e; cases e
  | some q =>
   obtain ⟨c, s2⟩ := q
   rw [hq] at e
   obtain ⟨i2, g2⟩ := hs s x c s2 (by simp) h hq
   cases c
   ·cases e
    exact ⟨i2, g2, fun h => (by cases h), fun _ => ⟨x, by simp, s, h, hq⟩⟩
   ·obtain ⟨i3, g3, y3, n3⟩ := EY hr ht l (fun s x b s' hx => hs s x b s' (by simp [hx])) s2 b s' i2 e
    refine ⟨i3, ht _ _ _ g2 g3, fun hb z hz => ?_, fun hb => ?_⟩
    ·rcases List.mem_cons.1 hz with rfl | hz
     ·exact ⟨s, s2, h, hq, g3⟩
     ·exact y3 hb z hz
    ·obtain ⟨z, hz, rest⟩ := n3 hb
     exact ⟨z, by simp [hz], rest⟩
end Go.Ag
/- The judge comes to an end: each step of its recursion puts another pair on the trail. -/
namespace Go.Ag
open Go
variable {G : TA → Prop} {hd : TA → List TA} {tx : TA → Bytes} {loose : Bool}
theorem Aw {σ α : Type} {st : σ → α → Option (Bool × σ)} {I : σ → Prop} : ∀ (l : List α), (∀ s x, x ∈ l → I s → ∃ b s', st s x = some (b, s') ∧ I s') → ∀ s, I s → ∃ b s', mM st s l = some (b, s') ∧ I s'
 | [], _, s, h => ⟨true, s, rfl, h⟩
 | x :: l, hs, s, h => by
  obtain ⟨b, s2, e, h2⟩ := hs s x (by simp) h
  rw [mM, e]
  cases b
  ·exact ⟨false, s2, rfl, h2⟩
  ·exact Aw l (fun s x hx => hs s x (by simp [hx])) s2 h2
end Go.Ag
/- Which names lead to themselves; where spreading ends. -/
namespace Go.Ag
open Go
inductive qR (by_ : List (Bytes × TA)) : TA → Bytes → Prop where
 | here (t : TA) (nm : Bytes) (h : nm ∈ iW t) : qR by_ t nm
 | step (t : TA) (r nm : Bytes) (h : r ∈ iW t) (h' : qR by_ (dJ by_ r) nm) : qR by_ t nm
theorem qR.trans {by_ : List (Bytes × TA)} {t : TA} {r nm : Bytes} (h : qR by_ t r) (h' : qR by_ (dJ by_ r) nm) : qR by_ t nm := by
 induction h with
 | here t r h => exact .step t r nm h h'
 | step t q r h _ ih => exact .step t q nm h (ih h')
variable {by_ : List (Bytes × TA)} {nm : Bytes}
theorem Fj : ∀ (n : Nat) (t : TA) (seen s : List Bytes), gV by_ nm n t seen = some (true, s) → qR by_ t nm
 | 0, t, seen, s, h => by rw [gV] at h; cases h
 | n + 1, t, seen, s, h => by
  rw [gV, Option.map_eq_some_iff] at h
  obtain ⟨⟨c, s1⟩, hf, e⟩ := h
  have hc : c = false := by have := congrArg Prod.fst e; simpa using this
  subst hc
  obtain ⟨_, _, _, hno⟩ := EY (st := jG (gV by_ nm n) by_ nm) (I := fun _ => True) (Gr := fun _ _ => True) (fun _ _ => trivial) (fun _ _ _ _ _ => trivial) (iW t) (fun _ _ _ _ _ _ _ => ⟨trivial, trivial⟩) seen false s1 trivial hf
  obtain ⟨r, hr, s2, _, e2⟩ := hno rfl
  unfold jG at e2
  split at e2
  ·rename_i hq
   have : r = nm := by simpa using hq
   subst this
   exact .here t r hr
  ·split at e2
   ·cases e2
   ·split at e2
    ·cases e2
    ·rename_i b s3 hq
     have hb : b = true := by have := congrArg (fun o => o.map Prod.fst) e2; simpa using this
     subst hb
     exact .step t r nm hr (Fj n _ _ _ hq)
def wR (by_ : List (Bytes × TA)) (nm : Bytes) (seen s : List Bytes) : Prop :=
 (∀ r ∈ seen, r ∈ s) ∧ ∀ r ∈ s, r ∈ seen ∨ ∀ q ∈ iW (dJ by_ r), q ≠ nm ∧ q ∈ s
theorem wR.refl (s : List Bytes) : wR by_ nm s s := ⟨fun _ h => h, fun _ h => .inl h⟩
theorem wR.trans {a b c : List Bytes} (h : wR by_ nm a b) (h' : wR by_ nm b c) : wR by_ nm a c :=
 ⟨fun r hr => h'.1 r (h.1 r hr), fun r hr => by
  rcases h'.2 r hr with k | k
  ·rcases h.2 r k with k | k
   ·exact .inl k
   ·exact .inr fun q hq => ⟨(k q hq).1, h'.1 q (k q hq).2⟩
  ·exact .inr k⟩
theorem JO : ∀ (n : Nat) (t : TA) (seen s : List Bytes), gV by_ nm n t seen = some (false, s) → wR by_ nm seen s ∧ ∀ r ∈ iW t, r ≠ nm ∧ r ∈ s
 | 0, t, seen, s, h => by rw [gV] at h; cases h
 | n + 1, t, seen, s, h => by
  rw [gV, Option.map_eq_some_iff] at h
  obtain ⟨⟨c, s1⟩, hf, e⟩ := h
  have hc : c = true := by have := congrArg Prod.fst e; simpa using this
  have hs : s1 = s := congrArg Prod.snd e
  subst hc hs
  clear e
  have key : ∀ (rs : List Bytes) (seen : List Bytes), mM (jG (gV by_ nm n) by_ nm) seen rs = some (true, s1) → wR by_ nm seen s1 ∧ ∀ r ∈ rs, r ≠ nm ∧ r ∈ s1 := by
   intro rs
   induction rs with
   | nil => intro seen h; cases h; exact ⟨wR.refl _, fun r hr => by cases hr⟩
   | cons r rs ih =>
    intro seen h
    rw [mM] at h
    cases hq : jG (gV by_ nm n) by_ nm seen r with
    | none => rw [hq] at h; cases h
    | some q =>
     obtain ⟨c, s2⟩ := q
     rw [hq] at h
     cases c
     ·cases h
     ·obtain ⟨k1, k2⟩ := ih s2 h
      unfold jG at hq
      split at hq
      ·cases hq
      ·rename_i hne
       have hne : r ≠ nm := by simpa using hne
       split at hq
       ·rename_i hc
        cases hq
        have hc : r ∈ seen := by simpa using hc
        exact ⟨k1, fun x hx => by
         rcases List.mem_cons.1 hx with rfl | hx
         ·exact ⟨hne, k1.1 _ hc⟩
         ·exact k2 x hx⟩
       ·split at hq
        ·cases hq
        ·rename_i b s3 hcf
         have hb : b = false := by have := congrArg (fun o => o.map Prod.fst) hq; simpa using this
         have hs3 : s3 = s2 := by have := congrArg (fun o => o.map Prod.snd) hq; simpa using this
         subst hb hs3
         obtain ⟨j1, j2⟩ := JO n _ _ _ hcf
         have j : wR by_ nm seen s3 := by
          refine ⟨fun x hx => j1.1 x (by simp [hx]), fun x hx => ?_⟩
          rcases j1.2 x hx with h' | h'
          ·rcases List.mem_append.1 h' with h' | h'
           ·exact .inl h'
           ·rw [List.mem_singleton] at h'
            subst h'
            exact .inr j2
          ·exact .inr h'
         exact ⟨j.trans k1, fun x hx => by
          rcases List.mem_cons.1 hx with rfl | hx
          ·exact ⟨hne, k1.1 _ (j1.1 _ (by simp))⟩
          ·exact k2 x hx⟩
  exact key (iW t) seen hf
theorem JN {n : Nat} {t : TA} {b : Bool} {s : List Bytes} (h : gV by_ nm n t [] = some (b, s)) : b = true ↔ qR by_ t nm := by
 refine ⟨fun hb => by subst hb; exact Fj n t [] s h, fun hl => ?_⟩
 cases b
 ·obtain ⟨h1, h2⟩ := JO n t [] s h
  have hcl : ∀ r ∈ s, ∀ q ∈ iW (dJ by_ r), q ≠ nm ∧ q ∈ s := fun r hr => (h1.2 r hr).elim (fun h => by cases h) id
  have : ∀ u m, qR by_ u m → m = nm → (∀ r ∈ iW u, r ≠ nm ∧ r ∈ s) → False := fun u m hl => by
   induction hl with
   | here u m h => intro e hu; exact (hu m h).1 e
   | step u r m h _ ih => intro e hu; exact ih e (hcl r (hu r h).2)
  exact absurd (this t nm hl rfl h2) id
 ·rfl
theorem xC {α : Type} {p q : α → Bool} (h : ∀ x, p x = true → q x = true) : ∀ l : List α, (l.filter p).Sublist (l.filter q)
 | [] => by simp
 | x :: l => by
  have ih := xC h l
  rw [List.filter_cons, List.filter_cons]
  cases hp : p x
  ·cases hq : q x
   ·simpa using ih
   ·simpa using ih.cons x
  ·rw [h x hp]
   simpa using ih.cons_cons x
theorem AJ {U : List Bytes} (hU : ∀ r, ∀ q ∈ iW (dJ by_ r), q ∈ U) : ∀ (n : Nat) (t : TA) (seen : List Bytes), (∀ r ∈ iW t, r ∈ U) → (U.filter fun r => !seen.contains r).length < n → ∃ b s, gV by_ nm n t seen = some (b, s) ∧ ∀ r ∈ seen, r ∈ s
 | 0, t, seen, _, h => by omega
 | n + 1, t, seen, ht, h => by
  have hmono : ∀ {a b : List Bytes}, (∀ r ∈ a, r ∈ b) → (U.filter fun r => !b.contains r).length ≤ (U.filter fun r => !a.contains r).length := fun {a b} hab => by
   refine (xC (fun r hr => ?_) U).length_le
   simp only [List.contains_eq_mem, Bool.not_eq_true', decide_eq_false_iff_not] at hr ⊢
   exact fun hm => hr (hab r hm)
  rw [gV]
  have hf := Aw (st := jG (gV by_ nm n) by_ nm) (I := fun s => ∀ r ∈ seen, r ∈ s) (iW t) (fun s r hr hs => by
   unfold jG
   split
   ·exact ⟨_, _, rfl, hs⟩
   ·split
    ·exact ⟨_, _, rfl, hs⟩
    ·rename_i hc
     have hc : r ∉ s := by simpa using hc
     have hlt : (U.filter fun q => !(s ++ [r]).contains q).length < n := by
      have h1 : (U.filter fun q => !(s ++ [r]).contains q).length < (U.filter fun q => !s.contains q).length := by
       have hsub : (U.filter fun q => !(s ++ [r]).contains q).Sublist (U.filter fun q => !s.contains q) := xC (fun q hq => by
        simp only [List.contains_eq_mem, Bool.not_eq_true', decide_eq_false_iff_not] at hq ⊢
        exact fun hm => hq (by simp [hm])) U
       rcases Nat.lt_or_ge (U.filter fun q => !(s ++ [r]).contains q).length (U.filter fun q => !s.contains q).length with h' | h'
       ·exact h'
       ·have he := hsub.eq_of_length_le h'
        have : r ∈ U.filter fun q => !s.contains q := List.mem_filter.2 ⟨ht r hr, by simp [hc]⟩
        rw [← he] at this
        simp at this
      have h2 := hmono hs
      omega
     obtain ⟨b, s', e, k⟩ := AJ hU n (dJ by_ r) (s ++ [r]) (hU r) hlt
     exact ⟨!b, s', by rw [e], fun q hq => k q (by simp [hs q hq])⟩) seen fun r hr => hr
  obtain ⟨b, s, e, k⟩ := hf
  exact ⟨!b, s, by rw [e]; rfl, k⟩
theorem K7 {q : Bytes} {r : Bytes} (h : q ∈ iW (dJ by_ r)) : ∃ p ∈ by_, q ∈ iW p.2 := by
 unfold dJ at h
 cases hf : by_.find? (·.1 == r) with
 | none => rw [hf] at h; simp [default, kW, iW] at h
 | some p => rw [hf] at h; exact ⟨p, List.mem_of_find?_eq_some hf, h⟩
theorem LG (by_ : List (Bytes × TA)) (nm : Bytes) (t : TA) : ∃ n b s, gV by_ nm n t [] = some (b, s) := by
 obtain ⟨b, s, e, _⟩ := AJ (by_ := by_) (nm := nm) (U := iW t ++ by_.flatMap fun p => iW p.2) (fun r q hq => by
  obtain ⟨p, hp, hq⟩ := K7 hq
  exact List.mem_append_right _ (List.mem_flatMap.2 ⟨p, hp, hq⟩)) _ t [] (fun r hr => List.mem_append_left _ hr) (Nat.lt_succ_self _)
 exact ⟨_, b, s, e⟩
def qY (by_ : List (Bytes × TA)) (nm : Bytes) : Prop := (by_.find? (·.1 == nm)).isSome = false ∨ qR by_ (dJ by_ nm) nm
theorem Ri {e : fV} {nm : Bytes} : (xJ e nm).2 = (e.by_.find? (·.1 == nm)).isSome := by
 unfold xJ Rj
 cases e.by_.find? (·.1 == nm) <;> rfl
theorem yQ {e : fV} {nm : Bytes} : (xJ e nm).1 = dJ e.by_ nm := by
 unfold xJ Rj dJ
 cases e.by_.find? (·.1 == nm) <;> rfl
theorem lT {e : fV} (h : lU by_ e) (hn : (by_.map (·.1)).Nodup) (nm : Bytes) : oz e nm = true ↔ qY by_ nm := by
 unfold oz qY
 rw [Ri, h.hby]
 cases hf : by_.find? (·.1 == nm) with
 | none => simp
 | some p =>
  have hp := List.mem_of_find?_eq_some hf
  have hpn : p.1 = nm := by simpa using List.find?_some (p := fun q : Bytes × TA => q.1 == nm) hf
  obtain ⟨n, b, s, hc, hl⟩ := h.empty p hp
  rw [hpn] at hc hl
  have hlk : dJ by_ nm = p.2 := by unfold dJ; rw [hf]; rfl
  rw [hlk]
  simp only [Option.isSome_some, if_true, Bool.true_eq_false, false_or, hl]
  exact JN hc
end Go.Ag
/- Spreading ends; what it comes to. -/
namespace Go.Ag
open Go
theorem uD (e : fV) : ∀ n, (∀ t ys, bJ e n t = some ys → bJ e (n + 1) t = some ys) ∧ (∀ l ys, bR e n l = some ys → bR e (n + 1) l = some ys)
 | 0 => ⟨fun t ys h => (by rw [bJ] at h; cases h), fun l ys h => (by rw [bR] at h; cases h)⟩
 | n + 1 => by
  obtain ⟨h1, h2⟩ := uD e n
  refine ⟨fun t ys h => ?_, fun l ys h => ?_⟩
  ·obtain ⟨k, nm, ns, l⟩ := t
   rw [bJ] at h ⊢
   split at h
   ·rename_i h8
    rw [if_pos h8]
    split at h
    ·rename_i he; rw [if_pos he]; exact h
    ·rename_i he; rw [if_neg he]; exact h1 _ _ h
   ·rename_i h8
    rw [if_neg h8]
    split at h
    ·rename_i h7; rw [if_pos h7]; exact h2 _ _ h
    ·rename_i h7; rw [if_neg h7]; exact h
  ·cases l with
   | nil => rw [bR] at h ⊢; exact h
   | cons t l =>
    rw [bR] at h ⊢
    cases hx : bJ e n t with
    | none => rw [hx] at h; cases h
    | some xs =>
     cases hr : bR e n l with
     | none => rw [hx, hr] at h; cases h
     | some zs =>
      rw [hx, hr] at h
      rw [h1 _ _ hx, h2 _ _ hr]
      exact h
theorem uE {e : fV} {n m : Nat} (hnm : n ≤ m) {t : TA} {ys : List TA} (h : bJ e n t = some ys) : bJ e m t = some ys := by
 induction hnm with
 | refl => exact h
 | step _ ih => exact (uD e _).1 _ _ ih
theorem FR {e : fV} {n m : Nat} (hnm : n ≤ m) {t : List TA} {ys : List TA} (h : bR e n t = some ys) : bR e m t = some ys := by
 induction hnm with
 | refl => exact h
 | step _ ih => exact (uD e _).2 _ _ ih
theorem Kt {e : fV} {n m : Nat} {t : TA} {ys zs : List TA} (h : bJ e n t = some ys) (h' : bJ e m t = some zs) : ys = zs := by
 have h1 := uE (Nat.le_max_left n m) h
 have h2 := uE (Nat.le_max_right n m) h'
 rw [h1] at h2
 exact Option.some.inj h2
theorem Ac {e : fV} : ∀ (l : List TA), (∀ x ∈ l, ∃ n ys, bJ e n x = some ys) → ∃ n ys, bR e n l = some ys
 | [], _ => ⟨1, [], by rw [bR]⟩
 | t :: l, h => by
  obtain ⟨n, ys, h1⟩ := h t (by simp)
  obtain ⟨m, zs, h2⟩ := Ac l fun x hx => h x (by simp [hx])
  refine ⟨max n m + 1, ys ++ zs, ?_⟩
  rw [bR, uE (Nat.le_max_left n m) h1, FR (Nat.le_max_right n m) h2]
variable {by_ : List (Bytes × TA)}
theorem Jw {nm : Bytes} (h : (by_.find? (·.1 == nm)).isSome = true) : nm ∈ by_.map (·.1) := by
 rw [List.find?_isSome] at h
 obtain ⟨p, hp, e⟩ := h
 exact List.mem_map.2 ⟨p, hp, by simpa using e⟩
theorem Po {l : List TA} {t : TA} {r : Bytes} (ht : t ∈ l) (hr : r ∈ iW t) : r ∈ vo l := by
 induction l with
 | nil => cases ht
 | cons x l ih =>
  rw [vo, List.mem_append]
  rcases List.mem_cons.1 ht with rfl | ht
  ·exact .inl hr
  ·exact .inr (ih ht)
theorem FT {e : fV} (hE : lU by_ e) (hnd : (by_.map (·.1)).Nodup) : ∀ (k : Nat) (P : List Bytes), P.Nodup → (∀ p ∈ P, p ∈ by_.map (·.1)) → (by_.map (·.1)).length - P.length = k → ∀ (w : Nat) (t : TA), wtT t ≤ w → (∀ p ∈ P, ∀ r ∈ iW t, qR by_ (dJ by_ p) r) → ∃ n ys, bJ e n t = some ys := by
 intro k
 induction k using Nat.strongRecOn with
 | ind k ih =>
  intro P hP hsub hk w
  induction w with
  | zero => intro t h; have := BD t; omega
  | succ w ihw =>
   intro t hw hlead
   obtain ⟨tk, nm, ns, l⟩ := t
   rw [iW] at hlead
   by_cases h8 : tk = 8
   ·rw [if_pos h8] at hlead
    by_cases hem : oz e nm = true
    ·exact ⟨1, [dQ], by rw [bJ, if_pos h8, if_pos hem]⟩
    ·have hne : ¬ qY by_ nm := fun h => hem ((lT hE hnd nm).2 h)
     have hdef : (by_.find? (·.1 == nm)).isSome = true := by
      cases hd : (by_.find? (·.1 == nm)).isSome
      ·exact absurd (.inl hd) hne
      ·rfl
     have hkey := Jw hdef
     have hnP : nm ∉ P := fun hm => hne (.inr (hlead nm hm nm (by simp)))
     have hP' : (nm :: P).Nodup := List.nodup_cons.2 ⟨hnP, hP⟩
     have hlen : (nm :: P).length ≤ (by_.map (·.1)).length := hP'.length_le_of_subset fun p hp => by
      rcases List.mem_cons.1 hp with rfl | hp
      ·exact hkey
      ·exact hsub p hp
     rw [List.length_cons] at hlen
     obtain ⟨n, ys, h⟩ := ih (k - 1) (by omega) (nm :: P) hP' (fun p hp => by
      rcases List.mem_cons.1 hp with rfl | hp
      ·exact hkey
      ·exact hsub p hp) (by rw [List.length_cons]; omega) _ (dJ by_ nm) (Nat.le_refl _) (fun p hp r hr => by
      rcases List.mem_cons.1 hp with rfl | hp
      ·exact .here _ _ hr
      ·exact (hlead p hp nm (by simp)).trans (.here _ _ hr))
     refine ⟨n + 1, ys, ?_⟩
     rw [bJ, if_pos h8, if_neg hem, yQ, hE.hby]
     exact h
   ·rw [if_neg h8] at hlead
    by_cases h7 : tk = 7
    ·rw [if_pos h7] at hlead
     rw [wtT] at hw
     obtain ⟨n, ys, h⟩ := Ac (e := e) l fun x hx => ihw x (by have := gP hx; omega) fun p hp r hr => hlead p hp r (Po hx hr)
     exact ⟨n + 1, ys, by rw [bJ, if_neg h8, if_pos h7]; exact h⟩
    ·exact ⟨1, [.mk tk nm ns l], by rw [bJ, if_neg h8, if_neg h7]⟩
inductive Spr (by_ : List (Bytes × TA)) : TA → TA → Prop where
 | self (t : TA) (h7 : t.kind ≠ 7) (h8 : t.kind ≠ 8) : Spr by_ t t
 | part (nm : Bytes) (ns : List Bytes) (l : List TA) (x y : TA) (hx : x ∈ l) (h : Spr by_ x y) : Spr by_ (.mk 7 nm ns l) y
 | emp (nm : Bytes) (ns : List Bytes) (l : List TA) (h : qY by_ nm) : Spr by_ (.mk 8 nm ns l) dQ
 | ref (nm : Bytes) (ns : List Bytes) (l : List TA) (y : TA) (he : ¬ qY by_ nm) (h : Spr by_ (dJ by_ nm) y) : Spr by_ (.mk 8 nm ns l) y
theorem BO {e : fV} (hE : lU by_ e) (hnd : (by_.map (·.1)).Nodup) : ∀ n, (∀ t ys, bJ e n t = some ys → ∀ y, y ∈ ys ↔ Spr by_ t y) ∧ (∀ l ys, bR e n l = some ys → ∀ y, y ∈ ys ↔ ∃ x ∈ l, Spr by_ x y)
 | 0 => ⟨fun t ys h => (by rw [bJ] at h; cases h), fun l ys h => (by rw [bR] at h; cases h)⟩
 | n + 1 => by
  obtain ⟨h1, h2⟩ := BO hE hnd n
  refine ⟨fun t ys h y => ?_, fun l ys h y => ?_⟩
  ·obtain ⟨k, nm, ns, l⟩ := t
   rw [bJ] at h
   split at h
   ·rename_i h8
    subst h8
    split at h
    ·rename_i he
     cases h
     have he := (lT hE hnd nm).1 he
     rw [List.mem_singleton]
     refine ⟨fun h => by subst h; exact .emp nm ns l he, fun h => ?_⟩
     cases h with
     | self _ _ h8 => exact absurd rfl h8
     | emp => rfl
     | ref _ _ _ _ hn => exact absurd he hn
    ·rename_i he
     have he : ¬ qY by_ nm := fun h => he ((lT hE hnd nm).2 h)
     rw [yQ, hE.hby] at h
     rw [h1 _ _ h y]
     refine ⟨fun h => .ref nm ns l y he h, fun h => ?_⟩
     cases h with
     | self _ _ h8 => exact absurd rfl h8
     | emp _ _ _ hn => exact absurd hn he
     | ref _ _ _ _ _ h => exact h
   ·rename_i h8
    split at h
    ·rename_i h7
     subst h7
     rw [h2 _ _ h y]
     refine ⟨fun ⟨x, hx, hs⟩ => .part nm ns l x y hx hs, fun h => ?_⟩
     cases h with
     | self _ h7 _ => exact absurd rfl h7
     | part _ _ _ x _ hx hs => exact ⟨x, hx, hs⟩
    ·rename_i h7
     cases h
     rw [List.mem_singleton]
     refine ⟨fun h => by subst h; exact .self _ h7 h8, fun h => ?_⟩
     cases h with
     | self => rfl
     | part => exact absurd rfl h7
     | emp => exact absurd rfl h8
     | ref => exact absurd rfl h8
  ·cases l with
   | nil =>
    rw [bR] at h
    cases h
    exact ⟨fun h => (by cases h), fun ⟨x, hx, _⟩ => (by cases hx)⟩
   | cons t l =>
    rw [bR] at h
    cases hx : bJ e n t with
    | none => rw [hx] at h; cases h
    | some xs =>
     cases hr : bR e n l with
     | none => rw [hx, hr] at h; cases h
     | some zs =>
      rw [hx, hr] at h
      cases h
      rw [List.mem_append, h1 _ _ hx y, h2 _ _ hr y]
      refine ⟨fun h => ?_, fun ⟨x, hx, hs⟩ => ?_⟩
      ·rcases h with h | ⟨x, hx, h⟩
       ·exact ⟨t, by simp, h⟩
       ·exact ⟨x, by simp [hx], h⟩
      ·rcases List.mem_cons.1 hx with rfl | hx
       ·exact .inl hs
       ·exact .inr ⟨x, hx, hs⟩
noncomputable def wY (e : fV) (t : TA) : List TA := open Classical in if h : ∃ n ys, bJ e n t = some ys then h.choose_spec.choose else []
theorem Tf {e : fV} {n : Nat} {t : TA} {ys : List TA} (h : bJ e n t = some ys) : wY e t = ys := by
 have hx : ∃ n ys, bJ e n t = some ys := ⟨n, ys, h⟩
 unfold wY
 rw [dif_pos hx]
 exact Kt hx.choose_spec.choose_spec h
theorem zf {e : fV} (hE : lU by_ e) (hnd : (by_.map (·.1)).Nodup) (t : TA) : ∃ n, bJ e n t = some (wY e t) := by
 obtain ⟨n, ys, h⟩ := FT hE hnd _ [] (by simp) (fun p hp => by cases hp) rfl _ t (Nat.le_refl _) (fun p hp => by cases hp)
 exact ⟨n, by rw [Tf h]; exact h⟩
theorem kY {e : fV} (hE : lU by_ e) (hnd : (by_.map (·.1)).Nodup) (t y : TA) : y ∈ wY e t ↔ Spr by_ t y := by
 obtain ⟨n, h⟩ := zf hE hnd t
 exact (BO hE hnd n).1 _ _ h y
theorem yD (hb : ∀ p ∈ by_, NT p.2) {nm : Bytes} (h : ¬ qY by_ nm) : NT (dJ by_ nm) ∧ ∃ p ∈ by_, dJ by_ nm = p.2 := by
 unfold qY at h
 cases hf : by_.find? (·.1 == nm) with
 | none => exact absurd (.inl (by rw [hf]; rfl)) h
 | some p =>
  have hp := List.mem_of_find?_eq_some hf
  have : dJ by_ nm = p.2 := by unfold dJ; rw [hf]; rfl
  exact ⟨by rw [this]; exact hb p hp, p, hp, this⟩
theorem Spr.nt (hb : ∀ p ∈ by_, NT p.2) {t y : TA} (h : Spr by_ t y) : NT t → NT y ∧ y.kind ≠ 7 ∧ y.kind ≠ 8 := by
 induction h with
 | self t h7 h8 => exact fun ht => ⟨ht, h7, h8⟩
 | part nm ns l x y hx h ih => exact fun ht => ih (ht.parts x hx)
 | emp nm ns l h => exact fun _ => ⟨.dyn, by decide, by decide⟩
 | ref nm ns l y he h ih => exact fun _ => ih (yD hb he).1
theorem Spr.some (hb : ∀ p ∈ by_, NT p.2) {e : fV} (hE : lU by_ e) (hnd : (by_.map (·.1)).Nodup) : ∀ (n : Nat) (t : TA) (ys : List TA), NT t → bJ e n t = Option.some ys → ys ≠ [] := by
 intro n
 induction n using Nat.strongRecOn with
 | ind n ih =>
 intro t ys ht h
 cases n with
 | zero => rw [bJ] at h; cases h
 | succ n =>
  obtain ⟨k, nm, ns, l⟩ := t
  rw [bJ] at h
  split at h
  ·split at h
   ·cases h; simp
   ·rename_i he
    have he : ¬ qY by_ nm := fun h => he ((lT hE hnd nm).2 h)
    rw [yQ, hE.hby] at h
    exact ih n (Nat.lt_succ_self n) _ ys (yD hb he).1 h
  ·split at h
   ·rename_i h7
    subst h7
    have hl : l ≠ [] ∧ ∀ x ∈ l, NT x := by cases ht with | uni l h2 h => exact ⟨by rintro rfl; simp at h2, h⟩
    obtain ⟨m, rfl⟩ : ∃ m, n = m + 1 := by cases n with
     | zero => rw [bR] at h; cases h
     | succ m => exact ⟨m, rfl⟩
    cases l with
    | nil => exact absurd rfl hl.1
    | cons t l =>
     rw [bR] at h
     cases hx : bJ e m t with
     | none => rw [hx] at h; cases h
     | some xs =>
      cases hr : bR e m l with
      | none => rw [hx, hr] at h; cases h
      | some zs =>
       rw [hx, hr] at h
       cases h
       have := ih m (by omega) t xs (hl.2 t (by simp)) hx
       intro e; exact this (List.append_eq_nil_iff.1 e).1
   ·cases h; simp
end Go.Ag
/- Package sub: under. -/
namespace Go.Ag
open Go
variable {T : Tab} {L : Lnk}
end Go.Ag
/- Package sub: related; Sub, Fits, Equal. -/
namespace Go.Ag
open Go
variable {T : Tab} {L : Lnk}
end Go.Ag
/- A judge over good definitions and types answers as the greatest sound relation does. -/
namespace Go.Ag
open Go
structure lY (by_ : List (Bytes × TA)) (e : fV) (C : List TA) : Prop where
 ok : lU by_ e
 nodup : (by_.map (·.1)).Nodup
 mem : ∀ p ∈ by_, p.2 ∈ C
 nt : ∀ t ∈ C, NT t
 cl : ∀ t ∈ C, ∀ x ∈ t.l, x ∈ C
 wt : ∀ t ∈ C, wtT t ≤ 2 ^ 30
 fin : C.length ≤ 2 ^ 19
 VU : ∀ t ∈ C, (wY e t).length ≤ 2 ^ 30
def GC' (C : List TA) (t : TA) : Prop := GT t ∧ wtT t ≤ 2 ^ 30 ∧ aM t ∈ C
noncomputable def hdE (e : fV) (t : TA) : List TA := qL (wY e (aM t))
variable {by_ : List (Bytes × TA)} {e : fV} {C : List TA}
theorem lY.WQ (W : lY by_ e C) : ∀ p ∈ by_, NT p.2 := fun p hp => W.nt _ (W.mem p hp)
theorem lY.spr (W : lY by_ e C) {t y : TA} (h : Spr by_ t y) : t ∈ C → y = dQ ∨ y ∈ C := by
 induction h with
 | self t h7 h8 => exact fun ht => .inr ht
 | part nm ns l x y hx h ih => exact fun ht => ih (W.cl _ ht x hx)
 | emp nm ns l h => exact fun _ => .inl rfl
 | ref nm ns l y he h ih =>
  obtain ⟨_, p, hp, h2⟩ := yD W.WQ he
  exact fun _ => ih (by rw [h2]; exact W.mem p hp)
theorem lY.some (W : lY by_ e C) (t : TA) (ht : t ∈ C) : ∃ n, bJ e n t = some (wY e t) ∧ wY e t ≠ [] ∧ ∀ y ∈ wY e t, NT y ∧ y.kind ≠ 7 ∧ y.kind ≠ 8 := by
 obtain ⟨n, h⟩ := zf W.ok W.nodup t
 exact ⟨n, h, Spr.some W.WQ W.ok W.nodup n t _ (W.nt t ht) h, fun y hy => ((kY W.ok W.nodup t y).1 hy).nt W.WQ (W.nt t ht)⟩
theorem lY.head (W : lY by_ e C) {t h : TA} (ht : GC' C t) (hh : h ∈ hdE e t) : h = dQ ∨ (h ∈ C ∧ h.kind ≠ 7 ∧ h.kind ≠ 8) := by
 rcases Jf hh with h | h
 ·exact .inl h
 ·obtain ⟨_, _, _, h3⟩ := W.some _ ht.2.2
  rcases W.spr ((kY W.ok W.nodup _ _).1 h) ht.2.2 with h' | h'
  ·exact .inl h'
  ·exact .inr ⟨h', (h3 _ h).2⟩
theorem lY.Li (W : lY by_ e C) {t h : TA} (ht : GC' C t) (hh : h ∈ hdE e t) : NT h ∧ wtT h ≤ 2 ^ 30 := by
 rcases W.head ht hh with rfl | h
 ·exact ⟨.dyn, by decide⟩
 ·exact ⟨W.nt _ h.1, W.wt _ h.1⟩
end Go.Ag
/- The greatest sound relation: laws of it. -/
namespace Go.Ag
open Go
section
variable {G : TA → Prop} {hd : TA → List TA} {loose : Bool}
end
mutual
def iJ : TA → List TA
 | .mk k nm ns l => .mk k nm ns l :: uz l
def uz : List TA → List TA
 | [] => []
 | t :: l => iJ t ++ uz l
end
theorem rC {l : List TA} {x : TA} : x ∈ uz l ↔ ∃ t ∈ l, x ∈ iJ t := by
 induction l with
 | nil => simp [uz]
 | cons t l ih => rw [uz, List.mem_append, ih]; simp
theorem rA (t : TA) : t ∈ iJ t := by obtain ⟨k, nm, ns, l⟩ := t; rw [iJ]; simp
theorem xV : ∀ (n : Nat) (t : TA), wtT t ≤ n → (∀ x ∈ iJ t, wtT x ≤ wtT t ∧ ∀ y ∈ x.l, y ∈ iJ t) ∧ 16 * (iJ t).length ≤ wtT t
 | 0, t, h => by have := BD t; omega
 | n + 1, t, h => by
  have ih := xV n
  obtain ⟨k, nm, ns, l⟩ := t
  rw [wtT] at h
  have hl : ∀ t ∈ l, wtT t + 8 ≤ wtL l := fun t ht => gP ht
  have hlen : 16 * (uz l).length ≤ wtL l := by
   have : ∀ m : List TA, (∀ t ∈ m, wtT t ≤ n) → 16 * (uz m).length ≤ wtL m := by
    intro m
    induction m with
    | nil => intro _; simp [uz]
    | cons t m ihm =>
     intro hm
     rw [uz, List.length_append, wtL]
     have h1 := (ih t (hm t (by simp))).2
     have h2 := ihm fun x hx => hm x (by simp [hx])
     omega
   exact this l fun t ht => by have := hl t ht; omega
  refine ⟨fun x hx => ?_, ?_⟩
  ·rw [iJ] at hx
   rcases List.mem_cons.1 hx with rfl | hx
   ·refine ⟨Nat.le_refl _, fun y hy => ?_⟩
    rw [iJ]
    exact List.mem_cons_of_mem _ (rC.2 ⟨y, hy, rA y⟩)
   ·obtain ⟨t, ht, hx⟩ := rC.1 hx
    have h1 := hl t ht
    obtain ⟨k1, k2⟩ := (ih t (by omega)).1 x hx
    refine ⟨by rw [wtT]; omega, fun y hy => ?_⟩
    rw [iJ]
    exact List.mem_cons_of_mem _ (rC.2 ⟨t, ht, k2 y hy⟩)
  ·rw [iJ, List.length_cons, wtT]; omega
theorem Mj : ∀ (n : Nat) (t : TA), wtT t ≤ n → NT t → ∀ x ∈ iJ t, NT x
 | 0, t, h => by have := BD t; omega
 | n + 1, t, h => by
  have ih := Mj n
  intro hn x hx
  have hp := hn.parts
  obtain ⟨k, nm, ns, l⟩ := t
  rw [wtT] at h
  rw [iJ] at hx
  rcases List.mem_cons.1 hx with rfl | hx
  ·exact hn
  ·obtain ⟨t, ht, hx⟩ := rC.1 hx
   have := gP ht
   exact ih t (by omega) (hp t ht) x hx
variable {by_ : List (Bytes × TA)} {e : fV} {C : List TA}
theorem lY.zA (W : lY by_ e C) {t x : TA} (ht : GC' C t) : x ∈ hdE e t ↔ (Spr by_ (aM t) dQ ∧ x = dQ) ∨ (¬ Spr by_ (aM t) dQ ∧ Spr by_ (aM t) x) := by
 obtain ⟨_, _, h2, h3⟩ := W.some _ ht.2.2
 have hi := fun y => kY W.ok W.nodup (aM t) y
 have hany : (wY e (aM t)).any (fun t => t.kind == 4) = true ↔ Spr by_ (aM t) dQ := by
  rw [List.any_eq_true]
  refine ⟨fun ⟨y, hy, h4⟩ => ?_, fun h => ⟨dQ, (hi dQ).2 h, rfl⟩⟩
  have := (h3 y hy).1.Dg (by simpa using h4)
  rw [← this]
  exact (hi y).1 hy
 unfold hdE qL
 by_cases hd : Spr by_ (aM t) dQ
 ·rw [if_pos (hany.2 hd), List.mem_singleton]
  simp [hd]
 ·rw [if_neg fun h => hd (hany.1 h), sU fun y hy => (h3 y hy).1, hi]
  simp [hd]
theorem PY {t x : TA} (h7 : t.kind ≠ 7) (h8 : t.kind ≠ 8) : Spr by_ t x ↔ x = t := by
 refine ⟨fun h => ?_, fun h => by subst h; exact .self _ h7 h8⟩
 cases h with
 | self => rfl
 | part => exact absurd rfl h7
 | emp => exact absurd rfl h8
 | ref => exact absurd rfl h8
theorem Mk {l : List TA} {x : TA} : Spr by_ (.mk 7 [] [] l) x ↔ ∃ t ∈ l, Spr by_ t x := by
 refine ⟨fun h => ?_, fun ⟨t, ht, h⟩ => .part [] [] l t x ht h⟩
 cases h with
 | self h h7 _ => exact absurd rfl h7
 | part _ _ _ t _ ht h => exact ⟨t, ht, h⟩
end Go.Ag
/- Heads of a union. -/
namespace Go.Ag
open Go
variable {by_ : List (Bytes × TA)} {e : fV} {C : List TA}
theorem Ee {t x : TA} (ht : NT t) : Spr by_ t x ↔ ∃ p ∈ dP t, Spr by_ p x := by
 unfold dP
 split
 ·rename_i h7
  cases ht with
  | uni l => exact Mk
  | _ => cases h7
 ·simp
theorem Ku {l : List TA} {x : TA} (h0 : l ≠ []) : Spr by_ (l9 l) x ↔ ∃ p ∈ l, Spr by_ p x := by
 match l, h0 with
 | [t], _ => simp [l9]
 | t :: u :: l, _ => exact Mk
theorem P5 {l : List TA} {x : TA} (hl : ∀ t ∈ l, NT t) : (∃ t ∈ l, Spr by_ t x) ↔ ∃ p ∈ aP l, Spr by_ p x := by
 refine ⟨fun ⟨t, ht, h⟩ => ?_, fun ⟨p, hp, h⟩ => ?_⟩
 ·obtain ⟨p, hp, h⟩ := (Ee (hl t ht)).1 h
  exact ⟨p, o7.2 ⟨t, ht, hp⟩, h⟩
 ·obtain ⟨t, ht, hp⟩ := o7.1 hp
  exact ⟨t, ht, (Ee (hl t ht)).2 ⟨p, hp, h⟩⟩
theorem PZ {l : List TA} (hl : ∀ t ∈ l, GT t) (h0 : l ≠ []) : (Spr by_ (aM (.mk 7 [] [] l)) dQ ↔ ∃ t ∈ l, Spr by_ (aM t) dQ) ∧ ((¬ ∃ t ∈ l, Spr by_ (aM t) dQ) → ∀ x, Spr by_ (aM (.mk 7 [] [] l)) x ↔ ∃ t ∈ l, Spr by_ (aM t) x) := by
 have hN : ∀ t ∈ dx l, NT t := fun t ht => by
  rw [eB] at ht
  obtain ⟨u, hu, rfl⟩ := List.mem_map.1 ht
  exact mF (hl u hu)
 have hmap : ∀ x, (∃ t ∈ l, Spr by_ (aM t) x) ↔ ∃ p ∈ aP (dx l), Spr by_ p x := fun x => by
  rw [← P5 hN, eB]
  refine ⟨fun ⟨t, ht, h⟩ => ⟨aM t, List.mem_map.2 ⟨t, ht, rfl⟩, h⟩, fun ⟨t, ht, h⟩ => ?_⟩
  obtain ⟨u, hu, rfl⟩ := List.mem_map.1 ht
  exact ⟨u, hu, h⟩
 have hne : aP (dx l) ≠ [] := Jv hN (by rw [eB]; simpa using h0)
 have hf := rZ hN
 rw [aM, if_pos rfl, mR]
 cases hd : (aP (dx l)).find? (fun t => t.kind == 4) with
 | some t =>
  have hm := List.mem_of_find?_eq_some hd
  have h4 : t.kind = 4 := by simpa using List.find?_some (p := fun t : TA => t.kind == 4) hd
  have := (hf t hm).1.Dg h4
  subst this
  have hdyn : ∃ t ∈ l, Spr by_ (aM t) dQ := (hmap dQ).2 ⟨dQ, hm, .self _ (by decide) (by decide)⟩
  exact ⟨⟨fun _ => hdyn, fun _ => .self dQ (show dQ.kind ≠ 7 by decide) (show dQ.kind ≠ 8 by decide)⟩, fun h => absurd hdyn h⟩
 | none =>
  have key : ∀ x, Spr by_ (l9 (fP (aP (dx l)))) x ↔ ∃ t ∈ l, Spr by_ (aM t) x := fun x => by
   rw [Ku (rJ hne), hmap]
   refine ⟨fun ⟨p, hp, h⟩ => ⟨p, kr hp, h⟩, fun ⟨p, hp, h⟩ => ⟨p, (sU fun t ht => (hf t ht).1).2 hp, h⟩⟩
  exact ⟨key dQ, fun _ => key⟩
end Go.Ag
/- Abstract codes, printed by a program of ours (acode.py) out of the given program's form. -/
namespace Go.Ag
open Go
def Sn : aR := (.mk 1 10 [2] (.seq (.ops [(.d 1 (.box 175 0)),(.d 2 (.mv (.const (.i 0))))]) (.seq (.ops [(.d 3 (.alloc [(.i 0)] 4)),(.n (.store 1 3 (.const (.i 0))))]) (.seq (.seq (.ops [(.d 4 (.load (some 4) 1)),(.d 5 (.call 185 [4]))]) (.block 0 (.qU 5 [6] .skip (.block 1 (.ops [(.d 7 (.load none 3)),(.d 8 (.bin .add 7 (.const (.i 1)))),(.n (.store 1 3 8))]))))) (.seq (.ops [(.d 9 (.load none 3)),(.d 2 (.mv 9))]) .ret)))))
def Nl : aR := (.mk 1 4 [2] (.seq (.ops [(.d 1 (.box 175 0)),(.d 2 (.mv (.const .kN)))]) (.seq (.ops [(.d 3 (.mkF (.func 222) [] [1])),(.d 2 (.mv 3))]) .ret)))
def Nj : aR := (.mk 2 6 [] (.ops [(.d 3 (.load (some 4) 1)),(.d 4 (.mv 0)),(.d 5 (.call 223 [3,4]))]))
def Ni : aR := (.mk 2 23 [4] (.seq (.ops [(.d 2 (.box 175 0)),(.d 4 (.mv (.const (.bool false))))]) (.seq (.seq (.ops [(.d 7 (.mv 1)),(.d 8 (.load (some 4) 2)),(.d 9 (.jC 7 [8])),(.d 10 (.un .not 9))]) (.cond 10 (.seq (.ops [(.d 4 (.mv (.const (.bool false))))]) .ret) .skip)) (.seq (.seq (.ops [(.d 11 (.aB 3 2)),(.d 12 (.load none 11)),(.d 13 (.kZ 12)),(.d 14 (.mv (.const (.i 0))))]) (.block 0 (.loop (.seq (.ops [(.d 15 (.bin .lss 14 13))]) (.seq (.cond 15 .skip (.exit 0)) (.seq (.block 1 (.seq (.ops [(.d 16 (.dz 4 12 14)),(.d 17 (.load (some 4) 16)),(.d 6 (.alloc [(.i 0),(.str []),.nl,.nl] 175)),(.n (.store 4 6 17))]) (.seq (.ops [(.d 18 (.load (some 4) 6)),(.d 19 (.mv 1)),(.d 20 (.call 223 [18,19])),(.d 21 (.un .not 20))]) (.cond 21 (.seq (.ops [(.d 4 (.mv (.const (.bool false))))]) .ret) .skip)))) (.ops [(.d 22 (.bin .add 14 (.const (.i 1)))),(.d 14 (.mv 22))]))))))) (.seq (.ops [(.d 4 (.mv (.const (.bool true))))]) .ret)))))
def Np : aR := (.mk 2 9 [4] (.seq (.ops [(.d 3 (.box 175 1)),(.d 4 (.mv (.const (.str []))))]) (.seq (.ops [(.d 5 (.mv 0)),(.d 6 (.load (some 4) 3)),(.d 7 (.call 188 [5,6])),(.d 8 (.call 150 [7])),(.d 4 (.mv 8))]) .ret)))
def Nk : aR := (.mk 1 21 [2] (.seq (.ops [(.d 1 (.box 109 0)),(.d 2 (.mv (.const (.i 0))))]) (.seq (.ops [(.d 3 (.mv (.const (.i 1))))]) (.seq (.seq (.ops [(.d 4 (.mv (.const (.i 0))))]) (.block 0 (.loop (.seq (.seq (.ops [(.d 5 (.mv 4)),(.d 6 (.aB 3 1)),(.d 7 (.load none 6)),(.d 8 (.kZ 7)),(.d 9 (.bin .lss 5 8))]) (.cond 9 .skip (.exit 0))) (.seq (.block 1 (.ops [(.d 12 (.mv 3)),(.d 13 (.aB 3 1)),(.d 14 (.load none 13)),(.d 15 (.mv 4)),(.d 16 (.dz 4 14 15)),(.d 17 (.load (some 4) 16)),(.d 18 (.call 190 [17])),(.d 19 (.bin .add 12 18)),(.d 3 (.mv 19))])) (.ops [(.d 10 (.mv 4)),(.d 11 (.bin .add 10 (.const (.i 1)))),(.d 4 (.mv 11))])))))) (.seq (.ops [(.d 20 (.mv 3)),(.d 2 (.mv 20))]) .ret)))))
def Sk : aR := (.mk 1 21 [2] (.seq (.ops [(.d 2 (.mv (.const (.bool false))))]) (.seq (.ops [(.d 3 (.mv (.const (.i 0))))]) (.seq (.seq (.ops [(.d 4 (.mv (.const (.i 0))))]) (.block 0 (.loop (.seq (.seq (.ops [(.d 5 (.mv 4)),(.d 6 (.mv 0)),(.d 7 (.kZ 6)),(.d 8 (.bin .lss 5 7))]) (.cond 8 .skip (.exit 0))) (.seq (.block 1 (.ops [(.d 11 (.mv 3)),(.d 12 (.mv 0)),(.d 13 (.mv 4)),(.d 14 (.dz 5 12 13)),(.d 15 (.aB 1 14)),(.d 16 (.load (some 4) 15)),(.d 17 (.call 190 [16])),(.d 18 (.bin .add 11 17)),(.d 3 (.mv 18))])) (.ops [(.d 9 (.mv 4)),(.d 10 (.bin .add 9 (.const (.i 1)))),(.d 4 (.mv 10))])))))) (.seq (.ops [(.d 19 (.mv 3)),(.d 20 (.bin .leq 19 (.const (.i 60)))),(.d 2 (.mv 20))]) .ret)))))
def Nn : aR := (.mk 1 75 [2,3,4] (.seq (.ops [(.d 2 (.mv (.const .fT))),(.d 3 (.mv (.const .nl))),(.d 4 (.mv (.const (.bool false))))]) (.seq (.seq (.ops [(.d 12 (.mv 0)),(.d 13 (.qp 12)),(.d 14 (.bin .gtr 13 (.const (.i 600))))]) (.cond 14 (.seq (.ops [(.d 2 (.mv (.const .fT))),(.d 3 (.mv (.const .nl))),(.d 4 (.mv (.const (.bool false))))]) .ret) .skip)) (.seq (.ops [(.d 16 (.mv 0)),(.d 17 (.call 189 [16])),(.d 15 (.mv 17)),(.d 18 (.ext 15 0)),(.d 19 (.ext 15 1)),(.d 5 (.mv 18)),(.d 6 (.mv 19))]) (.seq (.ops [(.d 21 (.mv 0)),(.d 22 (.call 24 [21])),(.d 20 (.mv 22)),(.d 23 (.ext 20 0)),(.d 24 (.ext 20 1)),(.d 7 (.mv 23)),(.d 8 (.mv 24))]) (.seq (.ops [(.d 9 (.mv (.const .nl)))]) (.seq (.ops [(.d 10 (.mv (.const .nl)))]) (.seq (.seq (.ops [(.d 11 (.mv (.const (.i 0))))]) (.block 0 (.loop (.seq (.seq (.ops [(.d 25 (.mv 11)),(.d 26 (.mv 5)),(.d 27 (.kZ 26)),(.d 28 (.bin .lss 25 27))]) (.cond 28 .skip (.exit 0))) (.seq (.block 1 (.seq (.ops [(.d 31 (.mv 5)),(.d 32 (.mv 11)),(.d 33 (.dz 5 31 32)),(.d 34 (.aB 0 33)),(.d 35 (.load none 34)),(.d 36 (.bin .eql 35 (.const (.i 2))))]) (.cond 36 (.seq (.draw [(.d 37 (.mv 9)),(.d 38 (.mv 5)),(.d 39 (.mv 11)),(.d 40 (.dz 5 38 39)),(.d 41 (.aB 2 40)),(.d 42 (.load none 41)),(.d 43 (.mv 5)),(.d 44 (.mv 11)),(.d 45 (.dz 5 43 44)),(.d 46 (.aB 3 45)),(.d 47 (.load none 46)),(.d 48 (.dz 4 47 (.const (.i 0)))),(.d 49 (.load (some 4) 48)),(.d 50 (.build [(.str []),(.i 0),(.str []),.nl,.nl] [(0,(1,42)),(1,(4,49))])),(.d 51 (.lit 5 88 [] 1 [(0,50)]))] [(.d 52 (.append 5 88 182 37 51)),(.d 9 (.mv 52))]) (.draw [(.d 53 (.mv 10)),(.d 54 (.mv 7)),(.d 55 (.mv 11)),(.d 56 (.dz 5 54 55)),(.d 57 (.aB 2 56)),(.d 58 (.load none 57)),(.d 59 (.mv 7)),(.d 60 (.mv 11)),(.d 61 (.dz 5 59 60)),(.d 62 (.aB 3 61)),(.d 63 (.load none 62)),(.d 64 (.dz 4 63 (.const (.i 0)))),(.d 65 (.load (some 4) 64)),(.d 66 (.build [(.str []),(.i 0),(.str []),.nl,.nl] [(0,(1,58)),(1,(4,65))])),(.d 67 (.lit 5 88 [] 1 [(0,66)]))] [(.d 68 (.append 5 88 244 53 67)),(.d 10 (.mv 68))])) .skip))) (.ops [(.d 29 (.mv 11)),(.d 30 (.bin .add 29 (.const (.i 1)))),(.d 11 (.mv 30))])))))) (.seq (.ops [(.d 69 (.mv 9)),(.d 70 (.call 144 [69])),(.d 71 (.mv 10)),(.d 72 (.mv 9)),(.d 73 (.kZ 72)),(.d 74 (.bin .leq 73 (.const (.i 8)))),(.d 2 (.mv 70)),(.d 3 (.mv 71)),(.d 4 (.mv 74))]) .ret)))))))))
def Sr : aR := (.mk 0 23 [0] (.seq (.ops [(.d 0 (.mv (.const (.bool false))))]) (.seq (.ops [(.d 5 (.call 147 [(.const (.str [116,121,112,101,32,116,32,61,32,105,110,116,32,124,32,116,59,32,116,121,112,101,32,117,32,61,32,123,97,58,32,117,125,59]))])),(.d 4 (.mv 5)),(.d 6 (.ext 4 0)),(.d 7 (.ext 4 1)),(.d 8 (.ext 4 2)),(.d 1 (.mv 6)),(.d 2 (.mv 7)),(.d 3 (.mv 8))]) (.seq (.ops [(.d 9 (.mv 3)),(.d 10 (.mv 9)),(.g 11 (.mv 1) 10 true),(.g 12 (.call 146 [11,(.const (.str [116]))]) 10 true),(.d 13 (.pick 10 12 (.const (.bool false)))),(.d 14 (.mv 13)),(.g 15 (.mv 1) 14 true),(.g 16 (.call 146 [15,(.const (.str [117]))]) 14 true),(.g 17 (.un .not 16) 14 true),(.d 18 (.pick 14 17 (.const (.bool false)))),(.d 19 (.mv 18)),(.g 20 (.mv 1) 19 true),(.g 21 (.call 146 [20,(.const (.str [118]))]) 19 true),(.d 22 (.pick 19 21 (.const (.bool false)))),(.d 0 (.mv 22))]) .ret))))
def JY : aR := (.mk 3 101 [6] (.seq (.ops [(.d 6 (.mv (.const (.bool false))))]) (.seq (.seq (.ops [(.d 18 (.call 141 [])),(.d 19 (.un .not 18))]) (.cond 19 (.seq (.ops [(.d 6 (.mv (.const (.bool false))))]) .ret) .skip)) (.seq (.ops [(.d 21 (.mv 0)),(.d 22 (.call 147 [21])),(.d 20 (.mv 22)),(.d 23 (.ext 20 0)),(.d 24 (.ext 20 1)),(.d 25 (.ext 20 2)),(.d 7 (.mv 23)),(.d 8 (.mv 24)),(.d 9 (.mv 25))]) (.seq (.ops [(.d 27 (.mv 1)),(.d 28 (.call 142 [27])),(.d 26 (.mv 28)),(.d 29 (.ext 26 0)),(.d 30 (.ext 26 1)),(.d 10 (.alloc [(.i 0),(.str []),.nl,.nl] 175)),(.n (.store 4 10 29)),(.d 11 (.mv 30))]) (.seq (.ops [(.d 32 (.mv 2)),(.d 33 (.call 142 [32])),(.d 31 (.mv 33)),(.d 34 (.ext 31 0)),(.d 35 (.ext 31 1)),(.d 12 (.alloc [(.i 0),(.str []),.nl,.nl] 175)),(.n (.store 4 12 34)),(.d 13 (.mv 35))]) (.seq (.seq (.draw [(.d 36 (.mv 9)),(.d 37 (.un .not 36)),(.d 38 (.mv 37)),(.g 39 (.mv 8) 38 false),(.g 40 (.call 148 [39]) 38 false),(.g 41 (.un .not 40) 38 false),(.d 42 (.pick 38 (.const (.bool true)) 41)),(.d 43 (.mv 42)),(.g 44 (.mv 11) 43 false),(.g 45 (.un .not 44) 43 false),(.d 46 (.pick 43 (.const (.bool true)) 45)),(.d 47 (.mv 46)),(.g 48 (.mv 13) 47 false),(.g 49 (.un .not 48) 47 false),(.d 50 (.pick 47 (.const (.bool true)) 49)),(.d 51 (.mv 50)),(.g 52 (.load (some 4) 10) 51 false),(.g 53 (.call 143 [52]) 51 false),(.g 54 (.load (some 4) 12) 51 false),(.g 55 (.call 143 [54]) 51 false),(.g 56 (.bin .add 53 55) 51 false),(.g 57 (.bin .gtr 56 (.const (.i 40))) 51 false),(.d 58 (.pick 51 (.const (.bool true)) 57))] []) (.cond 58 (.seq (.ops [(.d 6 (.mv (.const (.bool true))))]) .ret) .skip)) (.seq (.ops [(.d 14 (.mv (.const .nl)))]) (.seq (.ops [(.d 59 (.mv 14)),(.d 60 (.mv 7)),(.d 61 (.load (some 4) 10)),(.d 62 (.call 149 [60,61])),(.d 63 (.append 4 72 175 59 62)),(.d 14 (.mv 63))]) (.seq (.ops [(.d 64 (.mv 14)),(.d 65 (.mv 7)),(.d 66 (.load (some 4) 12)),(.d 67 (.call 149 [65,66])),(.d 68 (.append 4 72 175 64 67)),(.d 14 (.mv 68))]) (.seq (.ops [(.d 69 (.mv 14)),(.d 70 (.call 151 [69])),(.d 71 (.call 150 [70])),(.d 15 (.mv 71))]) (.seq (.ops [(.d 72 (.load (some 4) 10)),(.d 73 (.load (some 4) 12)),(.d 74 (.lit 4 72 [] 2 [(0,72),(1,73)])),(.d 75 (.build [(.i 0),(.str []),.nl,.nl] [(0,(1,(.const (.i 7)))),(3,(1,74))])),(.d 16 (.alloc [(.i 0),(.str []),.nl,.nl] 175)),(.n (.store 4 16 75))]) (.seq (.ops [(.d 76 (.load (some 4) 10)),(.d 77 (.build [(.i 0),(.str []),.nl,.nl] [(0,(1,(.const (.i 4))))])),(.d 78 (.lit 4 72 [] 2 [(0,76),(1,77)])),(.d 79 (.build [(.i 0),(.str []),.nl,.nl] [(0,(1,(.const (.i 7)))),(3,(1,78))])),(.d 17 (.alloc [(.i 0),(.str []),.nl,.nl] 175)),(.n (.store 4 17 79))]) (.seq (.ops [(.d 80 (.mv 7)),(.d 81 (.load (some 4) 16)),(.d 82 (.call 145 [80,81])),(.d 83 (.mv 15)),(.d 84 (.bin .eql 82 83)),(.d 85 (.mv 84)),(.g 86 (.mv 7) 85 true),(.g 87 (.load (some 4) 17) 85 true),(.g 88 (.call 145 [86,87]) 85 true),(.g 89 (.bin .eql 88 (.const (.str [63]))) 85 true),(.d 90 (.pick 85 89 (.const (.bool false)))),(.d 91 (.mv 90)),(.g 92 (.mv 7) 91 true),(.g 93 (.load (some 4) 12) 91 true),(.g 94 (.load (some 4) 10) 91 true),(.g 95 (.lit 4 72 [] 2 [(0,93),(1,94)]) 91 true),(.g 96 (.build [(.i 0),(.str []),.nl,.nl] [(0,(1,(.const (.i 7)))),(3,(1,95))]) 91 true),(.g 97 (.call 145 [92,96]) 91 true),(.g 98 (.mv 15) 91 true),(.g 99 (.bin .eql 97 98) 91 true),(.d 100 (.pick 91 99 (.const (.bool false)))),(.d 6 (.mv 100))]) .ret))))))))))))))
end Go.Ag
/- Package types: all, Size. -/
namespace Go.Ag
open Go
variable {T : Tab} {L : Lnk}
mutual
def allT : TA → List TA
 | .mk k nm ns l => .mk k nm ns l :: sj l
def sj : List TA → List TA
 | [] => []
 | t :: l => allT t ++ sj l
end
theorem Kn {σ : Type} (OP : T.has 223 Ni) (p : σ → Nat → aV) (r : qz) (hlow : ∀ s k, k < 4 → bI 5 (p s k)) (hr : ∀ i, Low 5 (r.e i)) (BB : σ → Heap)
  (hB : ∀ s, BB s = [p s 0, p s 1, p s 2, p s 3, .loop r .ready]) (st : σ → TA → σ) (μ : σ → Nat) (hμ : ∀ s t, μ (st s t) ≤ μ s + 1)
  (hy : ∀ s t, μ s + 1 ≤ 2 ^ 45 → jI T.L 4 [t.av] (BB s) (.ret (.bool true)) (BB (st s t))) :
  ∀ (m : Nat) (t : TA), wtT t < m → wtT t ≤ 2 ^ 44 → ∀ s, μ s + (allT t).length ≤ 2 ^ 45 → eZ T.L 223 [t.av, .yld 4] (BB s) (.bool true) (BB ((allT t).foldl st s)) := by
 have rW : ∀ s, ∀ o ∈ BB s, bI 5 o := fun s => by
  rw [hB]
  exact gK.at ⟨hlow s 0 (by decide), hlow s 1 (by decide), hlow s 2 (by decide), hlow s 3 (by decide), hr, trivial⟩
 have dM : ∀ s, (BB s).length = 5 := fun s => by rw [hB]; rfl
 have oK : ∀ (l : List TA) (s : σ), μ (l.foldl st s) ≤ μ s + l.length := fun l => by
  induction l with
  | nil => intro s; simp
  | cons a l ih => intro s; rw [List.foldl_cons]; have := ih (st s a); have := hμ s a; simp; omega
 intro m
 induction m with
 | zero => intro t h; omega
 | succ m ih =>
  intro t hlt hwt s hs
  obtain ⟨k, nm, ns, l⟩ := t
  rw [allT] at hs ⊢
  rw [List.foldl_cons]
  rw [List.length_cons] at hs
  obtain ⟨fin, hfin⟩ : ∃ fin, (sj l).foldl st (st s (.mk k nm ns l)) = fin := ⟨_, rfl⟩
  rw [hfin]
  refine eZ.of 0 (by rw [dM, dM]) (.bool _) (by rw [dM]; exact rW _) (aC.mono (Q := fun r H' => ∃ J, r = .ret (.bool true) ∧ H' = BB fin ++ J) ?_ fun r H' ⟨J, e1, e2⟩ => ⟨_, _, J, e1, Weak.refl _, e2, rfl, fun i x y h1 h2 => by rw [h1] at h2; cases h2; exact bV.refl x⟩)
  rw [List.replicate_zero, List.append_nil]
  refine aG OP (by simp [Ni]) ?_
  have hyy := hy s (.mk k nm ns l) (by omega)
  have hm1 := hμ s (.mk k nm ns l)
  generalize st s (.mk k nm ns l) = s0 at hyy hfin hm1
  rw [hB]
  conv => whnf
  refine hyy.to (by rw [dM]; decide) (by rw [dM, dM]) (by rw [dM]; exact dh (aY _ _)) (by rw [dM]; exact rW _) (.bool _) (by rw [dM]; exact rW _) [cK (.mk k nm ns l)] (by rw [hB]; rfl) ?_
  rw [hB s0]
  conv => whnf
  intro I hI hG
  have key : ∀ (d j : Nat) (s1 : σ) (e : Env), l.length - j = d → j ≤ l.length → (sj (l.drop j)).foldl st s1 = fin → μ s1 + (sj (l.drop j)).length ≤ 2 ^ 45 →
    I (gQ e [(1, .yld 4), (4, .bool false), (12, .lst (TA.avs l) .none), (13, .int .i64 l.length), (14, .int .i64 j)]) (BB s1 ++ [cK (.mk k nm ns l)]) := by
   intro d
   induction d with
   | zero =>
    intro j s1 e hd hj hf hm
    have hjl : j = l.length := by omega
    rw [hjl, List.drop_length, sj] at hf
    rw [List.foldl_nil] at hf
    subst hf
    apply hI
    rw [hB s1]
    conv => whnf
    rw [dB (by omega)]
    conv => whnf
    exact ⟨_, rfl, rfl⟩
   | succ d ihd =>
    intro j s1 e hd hj hf hm
    have hjl : j < l.length := by omega
    rw [List.drop_eq_getElem_cons hjl, sj, List.foldl_append] at hf
    rw [List.drop_eq_getElem_cons hjl, sj, List.length_append] at hm
    have hget := sJ hjl
    have hmem := List.getElem_mem hjl
    have hwl := gP hmem
    rw [wtT] at hlt hwt
    have hll := oQ l
    have hc := ih l[j] (by omega) (by omega) s1 (by omega)
    have hm2 := oK (allT l[j]) s1
    generalize (allT l[j]).foldl st s1 = s2 at hc hf hm2
    have hnext := fun e => ihd (j + 1) s2 e (by omega) hjl hf (by omega)
    generalize l[j] = v at hget hc
    have hlv : ∀ x ∈ [v.av, .yld 4], Low (BB s1).length x := by rw [dM]; exact K5 (aY _ _) (.yld _ (by decide))
    apply hI
    rw [hB s1]
    obtain ⟨vk, vn, vs, vl⟩ := v
    conv => whnf
    rw [dV hjl]
    conv => whnf
    refine step_elem (Int.natCast_nonneg _) hget rfl ?_
    conv => whnf
    refine hc.to (by rw [dM, dM]) hlv (by rw [dM]; exact rW _) (.bool _) (by rw [dM]; exact rW _) [cK (.mk k nm ns l), cK (.mk vk vn vs vl)] (by rw [hB]; rfl) ?_
    rw [hB s2]
    conv => whnf
    refine hG.keep [(1, .yld 4), (4, .bool false), (12, .lst (TA.avs l) .none), (13, .int .i64 l.length), (14, .int .i64 (j + 1 : Nat))] (BB s2 ++ [cK (.mk k nm ns l)]) (by rw [hB]; exact Nat.le_refl 6) (by rw [hB]; rfl) ⟨rfl, rfl, rfl, rfl, add1 (by omega), trivial⟩
     (by rw [List.length_append, dM]; exact ⟨.yld _ (by decide : 4 < 6), .bool _, .lst _ _ trivial (bC _ l), .int _ _, .int _ _, trivial⟩)
     (by rw [List.length_append, dM, hB]; exact ⟨aI (by decide : 5 ≤ 6) (hlow _ 0 (by decide)), aI (by decide : 5 ≤ 6) (hlow _ 1 (by decide)), aI (by decide : 5 ≤ 6) (hlow _ 2 (by decide)), aI (by decide : 5 ≤ 6) (hlow _ 3 (by decide)), fun i => (hr i).mono (by decide : 5 ≤ 6), aI (Nat.zero_le _) (cZ _), trivial⟩) (hnext _)
  have h0 := key l.length 0 s0
  rw [hB s0] at h0
  exact inv_of [(1, .yld 4), (4, .bool false), (12, .lst (TA.avs l) .none), (13, .int .i64 l.length), (14, .int .i64 0)] ⟨rfl, rfl, rfl, by show au.int .i64 ((TA.avs l).length : Nat) = _; rw [dH], rfl, trivial⟩ (h0 _ rfl (Nat.zero_le _) hfin (by rw [List.drop_zero]; omega))
theorem Pv (Jm : T.has 222 Nj) (t : TA) (id : Nat) (H : Heap) {b : Bool} {H1 : Heap} (hid : H[id]? = some (cK t)) (h : eZ T.L 223 [t.av, .yld 4] H (.bool b) H1) : aC T.L 222 [.yld 4, .ptr id 0] H fun r H' => r = .ret (.tup []) ∧ H' = H1 := by
 refine aG Jm (by simp [Nj]) ?_
 obtain ⟨k, nm, ns, l⟩ := t
 have hl := IY (k := 4) hid rfl
 conv => whnf
 refine mX hl ?_
 conv => whnf
 refine aC.to1 h ?_
 conv => whnf
 exact ⟨rfl, rfl⟩
theorem SE (OQ : T.has 185 Nl) (t : TA) (H : Heap) : aC T.L 185 [t.av] H fun r H' => r = .ret (.fn (.func 222) [] [.ptr H.length 0]) ∧ H' = H ++ [cK t] := by
 refine aG OQ (by simp [Nl]) ?_
 obtain ⟨k, nm, ns, l⟩ := t
 conv => whnf
 exact ⟨rfl, rfl⟩
end Go.Ag
/- Package parse: expressions: the document's reader gives up once; the fields of a record. -/
namespace Go.Ag
open Go
structure BadEx (n : Nat) : Prop where
 expr : ∀ (d : Nat) (s : RS), s.bad = true → (bY n d s).2 = s
 fn : ∀ (d : Nat) (a : Int) (p : cO × RS), p.2.bad = true → (AZ n d a p).2 = p.2
 lt : ∀ (d : Nat) (a : Int) (p : cO × RS), p.2.bad = true → (AV n d a p).2 = p.2
 ie : ∀ (d : Nat) (a : Int) (s : RS), s.bad = true → (ifR n d a s).2 = s
 el : ∀ (d : Nat) (a : Int) (x : EA) (q : EA × RS), q.2.bad = true → (tZ n d a x q).2 = q.2
 post : ∀ (d : Nat) (x : EA) (s : RS), s.bad = true → (lM n d x s).2 = s
 basic : ∀ (d : Nat) (s : RS), s.bad = true → (eY n d s).2 = s
 as_ : ∀ (d : Nat) (a : Int) (q : EA × RS), q.2.bad = true → (asR n d a q).2 = q.2
 fields : ∀ (d : Nat) (a : Int) (names : List Bytes) (l : List EA) (s : RS), s.bad = true → (eX n d a names l s).2 = s
theorem dG : ∀ n : Nat, BadEx n := by
 intro n
 induction n with
 | zero => exact ⟨fun d s h => by unfold bY; rfl, fun d a p h => by unfold AZ; rfl, fun d a p h => by unfold AV; rfl, fun d a s h => by unfold ifR; rfl, fun d a x q h => by unfold tZ; rfl, fun d x s h => by unfold lM; rfl, fun d s h => by unfold eY; rfl, fun d a q h => by unfold asR; rfl, fun d a ns l s h => by unfold eX; rfl⟩
 | succ n ih =>
  refine ⟨fun d s h => ?_, fun d a p h => ?_, fun d a p h => ?_, fun d a s h => ?_, fun d a x q h => ?_, fun d x s h => ?_, fun d s h => ?_, fun d a q h => ?_, fun d a ns l s h => ?_⟩
  ·unfold bY
   rw [show jN d s = s from by unfold jN; rw [zO h]; split <;> rfl, if_pos h]
  ·unfold AZ
   rw [bH h, if_pos h]
  ·unfold AV
   dsimp only
   rw [bH h, ih.expr _ _ h, bH h, ih.expr _ _ h]
  ·unfold ifR
   rw [ih.expr _ _ h, bH h, ih.el _ _ _ _ (by rw [ih.expr _ _ h]; exact h), ih.expr _ _ h]
  ·unfold tZ
   dsimp only
   rw [bH h, ih.expr _ _ h]
  ·unfold lM
   rw [kK h, kK h, if_neg (by simp), if_neg (by simp)]
  ·unfold eY
   rw [if_pos h]
  ·rw [asR, kK h, if_neg (by simp)]
   exact bH h _
  ·unfold eX
   rw [h, kK h, if_neg (by simp)]
   exact bH h _
def eSt (d : Nat) : Nat → Bytes → List (Bytes × EA) → RS → List (Bytes × EA) × RS := fun n nm x s =>
 (if nm = [] ∨ (bY n (d + 1) s).2.bad = true then x else x ++ [(nm, (bY n (d + 1) s).1)], (bY n (d + 1) s).2)
theorem vg (d : Nat) (at_ : Int) : ∀ (n : Nat) (x : List (Bytes × EA)) (s : RS), s.ok → 6 * s.rem + 8 ≤ n →
  (eX n d at_ (x.map (·.1)) (x.map (·.2)) s).2 = (dI kEq (eSt d) n (x.map (·.1)) x s).2 ∧
  ((dI kEq (eSt d) n (x.map (·.1)) x s).2.bad = false → (eX n d at_ (x.map (·.1)) (x.map (·.2)) s).1 = .mk 5 at_ [] 0 ((dI kEq (eSt d) n (x.map (·.1)) x s).1.map (·.1)) ((dI kEq (eSt d) n (x.map (·.1)) x s).1.map (·.2)) [])
 | 0, x, s, hs, hf => by omega
 | n + 1, x, s, hs, hf => by
  rw [eX, dI]
  by_cases h1 : (!s.bad && !isR s kRb) = true
  ·rw [if_pos h1, if_pos h1]
   by_cases h2 : (aD (aJ s).2 kEq).bad = true
   ·rw [if_pos h2, if_pos h2]
    exact ⟨rfl, fun e => by rw [h2] at e; cases e⟩
   ·rw [if_neg h2, if_neg h2]
    have h2' : (aD (aJ s).2 kEq).bad = false := by simpa using h2
    have k1 := jU hs kEq h2'
    have k2 := (bK hs).trans (aK (hs.of (bK hs)) kEq)
    have htr := sH hs kEq h2'
    by_cases h3 : lK (x.map (·.1)) (aJ s).1.text = true
    ·rw [if_pos h3, if_pos h3]
     have k3 := (fH n).expr (d + 1) _ (hs.of k1)
     have k4 := fK ((hs.of k1).of k3)
     have r1 := k3.rem
     have r2 := k4.rem
     have r3 : (fM (aD (aJ s).2 kEq) (aJ s).1).rem = (aD (aJ s).2 kEq).rem := rfl
     have := vg d at_ n x _ (((hs.of k1).of k3).of k4) (by omega)
     exact this
    ·rw [if_neg h3, if_neg h3]
     obtain ⟨h4, _, _⟩ := iI h2'
     obtain ⟨_, h6, h7⟩ := nU h4
     have hne : (aJ s).1.text ≠ [] := by
      rw [h7]
      exact hs.named _ (List.mem_of_getElem? (uy hs)) h6
     have k3 := (fH n).expr (d + 1) _ (hs.of k2)
     have k4 := fK ((hs.of k2).of k3)
     have hok := ((hs.of k2).of k3).of k4
     have r1 := k3.rem
     have r2 := k4.rem
     simp only [eSt]
     generalize bY n (d + 1) (aD (aJ s).2 kEq) = q at hok k3 k4 r1 r2 ⊢
     by_cases h5 : q.2.bad = true
     ·rw [if_pos (.inr h5), tT h5, lS h5]
      exact ⟨(dG n).fields _ _ _ _ _ h5, fun e => by rw [h5] at e; cases e⟩
     ·rw [if_neg (fun e => e.elim hne h5)]
      have := vg d at_ n (x ++ [((aJ s).1.text, q.1)]) _ hok (by omega)
      rw [List.map_append, List.map_append] at this
      exact this
  ·rw [if_neg h1, if_neg h1]
   exact ⟨rfl, fun _ => rfl⟩
end Go.Ag
/- Abstract codes, printed by a program of ours (acode.py) out of the given program's form. -/
namespace Go.Ag
open Go
def RA : aR := (.mk 2 93 [(.cell 4 (some 7))] (.seq (.ops [(.d 4 (.alloc [(.i 0),(.i 0),(.str []),(.i 0),.nl,.nl,.nl] 313))]) (.seq (.ops [(.d 9 (.mv 0)),(.d 10 (.mv 1)),(.d 11 (.call 219 [9,10]))]) (.seq (.ops [(.d 12 (.mv 0)),(.d 13 (.call 218 [12])),(.d 14 (.fld 1 none 13)),(.d 15 (.build [(.i 0),(.i 0),(.str []),(.i 0),.nl,.nl,.nl] [(1,(1,14))])),(.d 5 (.alloc [(.i 0),(.i 0),(.str []),(.i 0),.nl,.nl,.nl] 313)),(.n (.store 7 5 15))]) (.seq (.block 0 (.seq (.ops [(.d 20 (.mv 0)),(.d 21 (.call 221 [20,(.const (.str [102,117,110]))])),(.d 19 (.mv 21))]) (.cond 19 (.seq (.ops [(.d 22 (.mv 0)),(.d 23 (.call 260 [22,(.const (.str [40]))]))]) (.seq (.ops [(.d 24 (.mv 0)),(.d 25 (.call 259 [24])),(.d 26 (.fld 2 none 25)),(.d 27 (.aB 0 5)),(.n (.store 1 27 (.const (.i 8)))),(.d 28 (.aB 2 5)),(.n (.store 1 28 26))]) (.seq (.ops [(.d 29 (.mv 0)),(.d 30 (.call 260 [29,(.const (.str [58]))]))]) (.seq (.ops [(.d 31 (.mv 0)),(.d 32 (.mv 1)),(.d 33 (.bin .add 32 (.const (.i 1)))),(.d 34 (.call 184 [31,33])),(.d 35 (.lit 4 72 [] 1 [(0,34)])),(.d 36 (.aB 6 5)),(.n (.store 1 36 35))]) (.seq (.ops [(.d 37 (.mv 0)),(.d 38 (.call 260 [37,(.const (.str [41]))]))]) (.ops [(.d 39 (.mv 0)),(.d 40 (.mv 1)),(.d 41 (.bin .add 40 (.const (.i 1)))),(.d 42 (.call 261 [39,41])),(.d 43 (.lit 7 112 [] 1 [(0,42)])),(.d 44 (.aB 5 5)),(.n (.store 1 44 43))])))))) (.seq (.ops [(.d 46 (.mv 0)),(.d 47 (.call 221 [46,(.const (.str [108,101,116]))])),(.d 45 (.mv 47))]) (.cond 45 (.seq (.ops [(.d 48 (.mv 0)),(.d 49 (.call 259 [48])),(.d 50 (.fld 2 none 49)),(.d 51 (.aB 0 5)),(.n (.store 1 51 (.const (.i 9)))),(.d 52 (.aB 2 5)),(.n (.store 1 52 50))]) (.seq (.ops [(.d 53 (.mv 0)),(.d 54 (.call 260 [53,(.const (.str [61]))]))]) (.seq (.ops [(.d 55 (.mv 0)),(.d 56 (.mv 1)),(.d 57 (.bin .add 56 (.const (.i 1)))),(.d 58 (.call 261 [55,57])),(.d 6 (.alloc [(.i 0),(.i 0),(.str []),(.i 0),.nl,.nl,.nl] 313)),(.n (.store 7 6 58))]) (.seq (.ops [(.d 59 (.mv 0)),(.d 60 (.call 260 [59,(.const (.str [105,110]))]))]) (.iU [(.d 61 (.load (some 7) 6)),(.d 62 (.mv 0)),(.d 63 (.mv 1)),(.d 64 (.bin .add 63 (.const (.i 1))))] (.alt (.d 65 (.call 261 [62,64])) [((some 7),6)] (.alt (.d 66 (.lit 7 112 [] 2 [(0,61),(1,65)])) [] (.alt (.d 67 (.aB 5 5)) [] (.alt (.n (.store 1 67 66)) [] .done .stop) .stop) .stop) .stop)))))) (.seq (.ops [(.d 69 (.mv 0)),(.d 70 (.call 221 [69,(.const (.str [105,102]))])),(.d 68 (.mv 70))]) (.cond 68 (.seq (.ops [(.d 71 (.aB 0 5)),(.n (.store 1 71 (.const (.i 10))))]) (.seq (.ops [(.d 72 (.mv 0)),(.d 73 (.mv 1)),(.d 74 (.bin .add 73 (.const (.i 1)))),(.d 75 (.call 261 [72,74])),(.d 7 (.alloc [(.i 0),(.i 0),(.str []),(.i 0),.nl,.nl,.nl] 313)),(.n (.store 7 7 75))]) (.seq (.ops [(.d 76 (.mv 0)),(.d 77 (.call 260 [76,(.const (.str [116,104,101,110]))]))]) (.seq (.ops [(.d 78 (.mv 0)),(.d 79 (.mv 1)),(.d 80 (.bin .add 79 (.const (.i 1)))),(.d 81 (.call 261 [78,80])),(.d 8 (.alloc [(.i 0),(.i 0),(.str []),(.i 0),.nl,.nl,.nl] 313)),(.n (.store 7 8 81))]) (.seq (.ops [(.d 82 (.mv 0)),(.d 83 (.call 260 [82,(.const (.str [101,108,115,101]))]))]) (.iU [(.d 84 (.load (some 7) 7)),(.d 85 (.load (some 7) 8)),(.d 86 (.mv 0)),(.d 87 (.mv 1)),(.d 88 (.bin .add 87 (.const (.i 1))))] (.alt (.d 89 (.call 261 [86,88])) [((some 7),7),((some 7),8)] (.alt (.d 90 (.lit 7 112 [] 3 [(0,84),(1,85),(2,89)])) [] (.alt (.d 91 (.aB 5 5)) [] (.alt (.n (.store 1 91 90)) [] .done .stop) .stop) .stop) .stop))))))) (.seq (.ops [(.d 16 (.mv 0)),(.d 17 (.mv 1)),(.d 18 (.call 296 [16,17])),(.n (.store 7 4 18))]) .ret)))))))) (.seq (.ops [(.d 92 (.load (some 7) 5)),(.n (.store 7 4 92))]) .ret))))))
def Rs : aR := (.mk 2 42 [(.cell 4 (some 7))] (.seq (.ops [(.d 4 (.alloc [(.i 0),(.i 0),(.str []),(.i 0),.nl,.nl,.nl] 313))]) (.seq (.ops [(.d 9 (.mv 0)),(.d 10 (.mv 1)),(.d 11 (.call 316 [9,10])),(.d 5 (.alloc [(.i 0),(.i 0),(.str []),(.i 0),.nl,.nl,.nl] 313)),(.n (.store 7 5 11))]) (.block 0 (.loop (.block 1 (.seq (.ops [(.d 12 (.mv 0)),(.d 13 (.call 218 [12])),(.d 14 (.fld 1 none 13)),(.d 6 (.mv 14))]) (.block 2 (.seq (.ops [(.d 17 (.mv 0)),(.d 18 (.call 221 [17,(.const (.str [40]))])),(.d 16 (.mv 18))]) (.cond 16 (.seq (.ops [(.d 19 (.mv 0)),(.d 20 (.mv 1)),(.d 21 (.bin .add 20 (.const (.i 1)))),(.d 22 (.call 261 [19,21])),(.d 7 (.alloc [(.i 0),(.i 0),(.str []),(.i 0),.nl,.nl,.nl] 313)),(.n (.store 7 7 22))]) (.seq (.ops [(.d 23 (.mv 0)),(.d 24 (.call 260 [23,(.const (.str [41]))]))]) (.ops [(.d 25 (.mv 6)),(.d 26 (.load (some 7) 5)),(.d 27 (.load (some 7) 7)),(.d 28 (.lit 7 112 [] 2 [(0,26),(1,27)])),(.d 29 (.build [(.i 0),(.i 0),(.str []),(.i 0),.nl,.nl,.nl] [(0,(1,(.const (.i 7)))),(1,(1,25)),(5,(1,28))])),(.n (.store 7 5 29))]))) (.seq (.ops [(.d 31 (.mv 0)),(.d 32 (.call 221 [31,(.const (.str [46]))])),(.d 30 (.mv 32))]) (.cond 30 (.seq (.ops [(.d 33 (.mv 0)),(.d 34 (.call 259 [33])),(.d 8 (.alloc [(.i 0),(.i 0),(.str [])] 282)),(.n (.store 3 8 34))]) (.ops [(.d 35 (.aB 1 8)),(.d 36 (.load none 35)),(.d 37 (.aB 2 8)),(.d 38 (.load none 37)),(.d 39 (.load (some 7) 5)),(.d 40 (.lit 7 112 [] 1 [(0,39)])),(.d 41 (.build [(.i 0),(.i 0),(.str []),(.i 0),.nl,.nl,.nl] [(0,(1,(.const (.i 6)))),(1,(1,36)),(2,(1,38)),(5,(1,40))])),(.n (.store 7 5 41))])) (.seq (.ops [(.d 15 (.load (some 7) 5)),(.n (.store 7 4 15))]) .ret)))))))))))))
def Ro : aR := (.mk 2 93 [(.cell 4 (some 7))] (.seq (.ops [(.d 2 (.box 225 0)),(.d 3 (.box 4 1)),(.d 4 (.alloc [(.i 0),(.i 0),(.str []),(.i 0),.nl,.nl,.nl] 313))]) (.seq (.ops [(.d 8 (.load none 2)),(.d 9 (.call 218 [8])),(.d 5 (.alloc [(.i 0),(.i 0),(.str [])] 282)),(.n (.store 3 5 9))]) (.seq (.ops [(.d 10 (.aB 1 5)),(.d 11 (.load none 10)),(.d 12 (.build [(.i 0),(.i 0),(.str []),(.i 0),.nl,.nl,.nl] [(1,(1,11))])),(.d 6 (.alloc [(.i 0),(.i 0),(.str []),(.i 0),.nl,.nl,.nl] 313)),(.n (.store 7 6 12))]) (.seq (.seq (.ops [(.d 13 (.aB 0 5)),(.d 14 (.load none 13))]) (.block 0 (.seq (.ops [(.d 16 (.bin .eql 14 (.const (.i 3)))),(.d 15 (.mv 16))]) (.cond 15 (.seq (.ops [(.d 17 (.load none 2)),(.d 18 (.aL 17)),(.d 19 (.aB 1 18)),(.d 20 (.load none 19)),(.d 21 (.bin .add 20 (.const (.i 1)))),(.d 22 (.aL 17)),(.d 23 (.aB 1 22)),(.n (.store 1 23 21))]) (.seq (.ops [(.d 24 (.aB 0 6)),(.n (.store 1 24 (.const (.i 1))))]) (.seq (.ops [(.d 26 (.aB 2 5)),(.d 27 (.load none 26)),(.d 28 (.call 322 [27,(.const (.i 10)),(.const (.i 64))])),(.d 25 (.mv 28)),(.d 29 (.ext 25 0)),(.d 30 (.ext 25 1)),(.d 31 (.aB 3 6)),(.n (.store 1 31 29))]) (.seq (.ops [(.d 32 (.load (some 7) 6)),(.n (.store 7 4 32))]) .ret)))) (.seq (.seq (.ops [(.d 34 (.bin .eql 14 (.const (.i 4)))),(.d 33 (.mv 34))]) (.cond 33 .skip (.ops [(.d 35 (.bin .eql 14 (.const (.i 1)))),(.d 33 (.mv 35))]))) (.cond 33 (.seq (.ops [(.d 36 (.load none 2)),(.d 37 (.aL 36)),(.d 38 (.aB 1 37)),(.d 39 (.load none 38)),(.d 40 (.bin .add 39 (.const (.i 1)))),(.d 41 (.aL 36)),(.d 42 (.aB 1 41)),(.n (.store 1 42 40))]) (.seq (.iU [(.d 43 (.aB 2 5)),(.d 44 (.load none 43)),(.d 45 (.aB 0 6))] (.alt (.n (.store 1 45 (.const (.i 2)))) [(none,43)] (.alt (.d 46 (.aB 2 6)) [] (.alt (.n (.store 1 46 44)) [] .done .stop) .stop) .stop)) (.seq (.seq (.ops [(.d 47 (.aB 0 5)),(.d 48 (.load none 47)),(.d 49 (.bin .eql 48 (.const (.i 1))))]) (.cond 49 (.ops [(.d 50 (.aB 0 6)),(.n (.store 1 50 (.const (.i 4))))]) .skip)) (.seq (.ops [(.d 51 (.load (some 7) 6)),(.n (.store 7 4 51))]) .ret)))) .skip)))))) (.seq (.block 1 (.seq (.ops [(.d 53 (.load none 2)),(.d 54 (.call 221 [53,(.const (.str [116,114,117,101]))])),(.d 52 (.mv 54))]) (.cond 52 (.seq (.ops [(.d 55 (.aB 0 6)),(.n (.store 1 55 (.const (.i 3)))),(.d 56 (.aB 3 6)),(.n (.store 1 56 (.const (.i 1))))]) (.seq (.ops [(.d 57 (.load (some 7) 6)),(.n (.store 7 4 57))]) .ret)) (.seq (.ops [(.d 59 (.load none 2)),(.d 60 (.call 221 [59,(.const (.str [102,97,108,115,101]))])),(.d 58 (.mv 60))]) (.cond 58 (.seq (.ops [(.d 61 (.aB 0 6)),(.n (.store 1 61 (.const (.i 3))))]) (.seq (.ops [(.d 62 (.load (some 7) 6)),(.n (.store 7 4 62))]) .ret)) (.seq (.ops [(.d 64 (.load none 2)),(.d 65 (.call 221 [64,(.const (.str [123]))])),(.d 63 (.mv 65))]) (.cond 63 (.seq (.ops [(.d 66 (.aB 0 6)),(.n (.store 1 66 (.const (.i 5))))]) (.seq (.ops [(.d 67 (.load none 2)),(.d 68 (.mkF (.func 323) [] [2,3,6])),(.d 69 (.call 306 [67,(.const (.str [61])),68]))]) (.seq (.ops [(.d 70 (.load (some 7) 6)),(.n (.store 7 4 70))]) .ret))) .skip))))))) (.seq (.ops [(.d 71 (.load none 2)),(.d 72 (.call 260 [71,(.const (.str [40]))]))]) (.seq (.ops [(.d 73 (.load none 2)),(.d 74 (.load none 3)),(.d 75 (.bin .add 74 (.const (.i 1)))),(.d 76 (.call 261 [73,75])),(.d 7 (.alloc [(.i 0),(.i 0),(.str []),(.i 0),.nl,.nl,.nl] 313)),(.n (.store 7 7 76))]) (.seq (.seq (.ops [(.d 77 (.load none 2)),(.d 78 (.call 221 [77,(.const (.str [58]))]))]) (.cond 78 (.seq (.iU [(.d 79 (.load (some 7) 7)),(.d 80 (.lit 7 112 [] 1 [(0,79)])),(.d 81 (.load none 2)),(.d 82 (.load none 3)),(.d 83 (.bin .add 82 (.const (.i 1)))),(.d 86 (.aB 0 6))] (.alt (.d 84 (.call 184 [81,83])) [((some 7),7)] (.alt (.d 85 (.lit 4 72 [] 1 [(0,84)])) [] (.alt (.n (.store 1 86 (.const (.i 11)))) [((some 7),7)] (.alt (.d 87 (.aB 5 6)) [] (.alt (.n (.store 1 87 80)) [] (.alt (.d 88 (.aB 6 6)) [] (.alt (.n (.store 1 88 85)) [] .done .stop) .stop) .stop) .stop) .stop) (.alt (.n (.store 1 86 (.const (.i 11)))) [((some 7),7)] (.alt (.d 85 (.lit 4 72 [] 1 [(0,84)])) [] (.alt (.d 87 (.aB 5 6)) [] (.alt (.n (.store 1 87 80)) [] (.alt (.d 88 (.aB 6 6)) [] (.alt (.n (.store 1 88 85)) [] .done .stop) .stop) .stop) .stop) (.alt (.d 87 (.aB 5 6)) [] (.alt (.d 85 (.lit 4 72 [] 1 [(0,84)])) [] (.alt (.n (.store 1 87 80)) [] (.alt (.d 88 (.aB 6 6)) [] (.alt (.n (.store 1 88 85)) [] .done .stop) .stop) .stop) (.alt (.n (.store 1 87 80)) [] (.alt (.d 85 (.lit 4 72 [] 1 [(0,84)])) [] (.alt (.d 88 (.aB 6 6)) [] (.alt (.n (.store 1 88 85)) [] .done .stop) .stop) .stop) .stop)) .stop)) .stop)) .stop)) (.ops [(.d 89 (.load (some 7) 6)),(.n (.store 7 7 89))])) .skip)) (.seq (.ops [(.d 90 (.load none 2)),(.d 91 (.call 260 [90,(.const (.str [41]))]))]) (.seq (.ops [(.d 92 (.load (some 7) 7)),(.n (.store 7 4 92))]) .ret)))))))))))
def Rn : aR := (.mk 4 24 [] (.seq (.ops [(.d 6 (.load none 1)),(.d 7 (.load none 2)),(.d 8 (.bin .add 7 (.const (.i 1)))),(.d 9 (.call 261 [6,8])),(.d 5 (.alloc [(.i 0),(.i 0),(.str []),(.i 0),.nl,.nl,.nl] 313)),(.n (.store 7 5 9))]) (.seq (.ops [(.d 10 (.mv 0)),(.d 11 (.bin .neq 10 (.const (.str []))))]) (.cond 11 (.iU [(.d 12 (.aB 4 3)),(.d 13 (.load none 12)),(.d 14 (.mv 0)),(.d 15 (.lit 1 16 [] 1 [(0,14)])),(.d 17 (.aB 5 3)),(.d 18 (.load none 17)),(.d 19 (.load (some 7) 5)),(.d 20 (.lit 7 112 [] 1 [(0,19)]))] (.alt (.d 16 (.append 1 16 10 13 15)) [] (.alt (.d 21 (.append 7 112 313 18 20)) [] (.alt (.d 22 (.aB 4 3)) [] (.alt (.n (.store 1 22 16)) [] (.alt (.d 23 (.aB 5 3)) [] (.alt (.n (.store 1 23 21)) [] .done .stop) .stop) .stop) .stop) (.alt (.d 22 (.aB 4 3)) [] (.alt (.d 21 (.append 7 112 313 18 20)) [] (.alt (.n (.store 1 22 16)) [] (.alt (.d 23 (.aB 5 3)) [] (.alt (.n (.store 1 23 21)) [] .done .stop) .stop) .stop) .stop) .stop)) .stop)) .skip))))
def RN : aR := (.mk 1 60 [(.cell 2 (some 5))] (.seq (.ops [(.d 2 (.alloc [(.i 0),(.i 0),(.str []),.nl,.nl] 242))]) (.seq (.ops [(.d 3 (.alloc [(.i 0),(.i 0),(.str []),.nl,.nl] 242))]) (.seq (.block 0 (.seq (.ops [(.d 8 (.mv 0)),(.d 9 (.call 221 [8,(.const (.str [117,115,101]))])),(.d 7 (.mv 9))]) (.cond 7 (.ops [(.d 10 (.aB 0 3)),(.n (.store 1 10 (.const (.i 1))))]) (.seq (.ops [(.d 12 (.mv 0)),(.d 13 (.call 221 [12,(.const (.str [116,121,112,101]))])),(.d 11 (.mv 13))]) (.cond 11 (.ops [(.d 14 (.aB 0 3)),(.n (.store 1 14 (.const (.i 2))))]) (.seq (.ops [(.d 16 (.mv 0)),(.d 17 (.call 221 [16,(.const (.str [108,101,116]))])),(.d 15 (.mv 17))]) (.cond 15 (.ops [(.d 18 (.aB 0 3)),(.n (.store 1 18 (.const (.i 3))))]) (.ops [(.d 5 (.mv 0)),(.d 6 (.call 248 [5,(.const (.i 2))]))])))))))) (.seq (.ops [(.d 19 (.mv 0)),(.d 20 (.call 259 [19])),(.d 4 (.alloc [(.i 0),(.i 0),(.str [])] 282)),(.n (.store 3 4 20))]) (.seq (.iU [(.d 21 (.aB 1 4)),(.d 22 (.load none 21)),(.d 23 (.aB 2 4)),(.d 24 (.load none 23)),(.d 25 (.aB 1 3))] (.alt (.n (.store 1 25 22)) [(none,23)] (.alt (.d 26 (.aB 2 3)) [] (.alt (.n (.store 1 26 24)) [] .done .stop) .stop) .stop)) (.seq (.seq (.ops [(.d 27 (.aB 0 3)),(.d 28 (.load none 27)),(.d 29 (.bin .eql 28 (.const (.i 3)))),(.d 30 (.mv 29)),(.g 31 (.mv 0) 30 true),(.g 32 (.call 221 [31,(.const (.str [58]))]) 30 true),(.d 33 (.pick 30 32 (.const (.bool false))))]) (.cond 33 (.ops [(.d 34 (.mv 0)),(.d 35 (.call 184 [34,(.const (.i 1))])),(.d 36 (.lit 4 72 [] 1 [(0,35)])),(.d 37 (.aB 3 3)),(.n (.store 1 37 36))]) .skip)) (.seq (.seq (.ops [(.d 38 (.aB 0 3)),(.d 39 (.load none 38)),(.d 40 (.bin .neq 39 (.const (.i 1))))]) (.cond 40 (.ops [(.d 41 (.mv 0)),(.d 42 (.call 260 [41,(.const (.str [61]))]))]) .skip)) (.seq (.seq (.ops [(.d 43 (.aB 0 3)),(.d 44 (.load none 43)),(.d 45 (.bin .eql 44 (.const (.i 2))))]) (.cond 45 (.ops [(.d 46 (.mv 0)),(.d 47 (.call 184 [46,(.const (.i 1))])),(.d 48 (.lit 4 72 [] 1 [(0,47)])),(.d 49 (.aB 3 3)),(.n (.store 1 49 48))]) .skip)) (.seq (.seq (.ops [(.d 50 (.aB 0 3)),(.d 51 (.load none 50)),(.d 52 (.bin .eql 51 (.const (.i 3))))]) (.cond 52 (.ops [(.d 53 (.mv 0)),(.d 54 (.call 261 [53,(.const (.i 1))])),(.d 55 (.lit 7 112 [] 1 [(0,54)])),(.d 56 (.aB 4 3)),(.n (.store 1 56 55))]) .skip)) (.seq (.ops [(.d 57 (.mv 0)),(.d 58 (.call 260 [57,(.const (.str [59]))]))]) (.seq (.ops [(.d 59 (.load (some 5) 3)),(.n (.store 5 2 59))]) .ret))))))))))))
def RL : aR := (.mk 1 18 [] (.block 0 (.loop (.seq (.seq (.ops [(.d 2 (.mv 0)),(.d 3 (.call 218 [2])),(.d 4 (.fld 0 none 3)),(.d 5 (.bin .neq 4 (.const (.i 6)))),(.d 6 (.mv 5)),(.g 7 (.mv 0) 6 true),(.g 8 (.call 221 [7,(.const (.str [59]))]) 6 true),(.g 9 (.un .not 8) 6 true),(.d 10 (.pick 6 9 (.const (.bool false))))]) (.cond 10 .skip (.exit 0))) (.block 1 (.ops [(.d 11 (.mv 0)),(.d 12 (.aL 11)),(.d 13 (.aB 1 12)),(.d 14 (.load none 13)),(.d 15 (.bin .add 14 (.const (.i 1)))),(.d 16 (.aL 11)),(.d 17 (.aB 1 16)),(.n (.store 1 17 15))]))))))
def R5 : aR := (.mk 1 35 [2,3] (.seq (.ops [(.d 2 (.mv (.const .nl))),(.d 3 (.mv (.const .nl)))]) (.seq (.ops [(.d 10 (.mv 0)),(.d 11 (.call 215 [10])),(.d 9 (.mv 11)),(.d 12 (.ext 9 0)),(.d 13 (.ext 9 1)),(.d 4 (.mv 12)),(.d 5 (.mv 13))]) (.seq (.ops [(.d 14 (.mv 4)),(.d 15 (.mv 5)),(.d 16 (.build [.nl,(.i 0),.nl] [(0,(1,14)),(2,(1,15))])),(.d 17 (.box 280 16)),(.d 6 (.alloc [.fT] 225)),(.n (.store 1 6 17))]) (.seq (.ops [(.d 7 (.mv (.const .nl)))]) (.seq (.block 0 (.loop (.seq (.seq (.ops [(.d 18 (.load none 6)),(.d 19 (.call 218 [18])),(.d 20 (.fld 0 none 19)),(.d 21 (.bin .neq 20 (.const (.i 6))))]) (.cond 21 .skip (.exit 0))) (.block 1 (.seq (.ops [(.d 8 (.alloc [(.i 0),(.i 0),(.str []),.nl,.nl] 242))]) (.seq (.ops [(.d 22 (.mkF (.func 227) [] [6,8])),(.d 23 (.call 216 [22]))]) (.cond 23 (.ops [(.d 24 (.mv 7)),(.d 25 (.load (some 5) 8)),(.d 26 (.lit 5 80 [] 1 [(0,25)])),(.d 27 (.append 5 80 242 24 26)),(.d 7 (.mv 27))]) (.ops [(.d 28 (.load none 6)),(.d 29 (.call 229 [28]))])))))))) (.seq (.draw [(.d 30 (.mv 7)),(.d 31 (.load none 6)),(.d 32 (.aL 31)),(.d 33 (.aB 2 32)),(.d 34 (.load none 33)),(.d 2 (.mv 30)),(.d 3 (.mv 34))] []) .ret)))))))
def RO : aR := (.mk 2 4 [] (.ops [(.d 2 (.load none 0)),(.d 3 (.call 228 [2])),(.n (.store 5 1 3))]))
end Go.Ag
/- Package parse: expressions: steps of the parser, told for use; a record's fields. -/
namespace Go.Ag
open Go
variable {T : Tab} {L : Lnk}
def Dr (n d : Nat) (s : RS) : EA × RS := lM n d (eY n d s).1 (eY n d s).2
structure PEx (T : Tab) (n : Nat) : Prop where
 expr : ∀ (d : Nat) (s : RS), s.ok → s.bad = false → d ≤ 65 → 6 * s.rem + 8 ≤ n → PC T.L 261 [.int .i64 d] s (bY n d s).1.av (bY n d s).2
 call : ∀ (d : Nat) (s : RS), s.ok → s.bad = false → d ≤ 64 → 6 * s.rem + 7 ≤ n → PC T.L 296 [.int .i64 d] s (Dr n d s).1.av (Dr n d s).2
 basic : ∀ (d : Nat) (s : RS), s.ok → s.bad = false → d ≤ 64 → 6 * s.rem + 7 ≤ n → PC T.L 316 [.int .i64 d] s (eY n d s).1.av (eY n d s).2
structure SL (L : Lnk) : Prop where
 num : ∀ s : Bytes, yu s → Pure L 322 [.str s, .int .i64 10, .int .i64 64] (.tup [.int .i64 (sZ s), .eF])
structure xP (T : Tab) : Prop extends Fy T where
 Uy : T.has 261 RA
 Ul : T.has 296 Rs
 Uh : T.has 316 Ro
 Ug : T.has 323 Rn
 num : SL T.L
theorem aQ.ku {s' s3 : RS} {y : au} {J H' : Heap} (h : s' = s3) (hs : s3.bad = true) (hH : H' = aW s3 ++ J) : aQ L s' y (.pan gup) H' := by
 subst h; exact aQ.pan hs hH
section steps
variable {s : RS} (hs : s.ok) (hb : s.bad = false) {H : Heap} {K KP : au → Heap → Prop} (J : Heap) (hH : H = aW s ++ J)
include hs hb hH
theorem dX.qC (F : dX T) (w : Bytes) (hn : isR s w = false → K (.bool false) (aW s ++ J))
  (hy : ∀ s', isR s w = true → aD s w = s' → s'.ok → s'.bad = false → s'.rem + 1 = s.rem → K (.bool true) (aW s' ++ J)) : aC T.L 221 [.ptr 1 0, .str w] H (d9 K KP) :=
 F.take hs hb w J hH hn fun h => hy _ h rfl (hs.of (aK hs w)) (by rw [jy h]; exact hb) (eD hs h)
theorem dX.oH (F : dX T) (w : Bytes) (hk : ∀ s', aD s w = s' → s'.ok → s'.bad = false → s'.rem + 1 = s.rem → K (.tup []) (aW s' ++ J))
  (hp : ∀ s', aD s w = s' → s'.bad = true → KP gup (aW s' ++ J)) : aC T.L 260 [.ptr 1 0, .str w] H (d9 K KP) :=
 F.want hs hb w J hH (fun h => hk _ rfl (hs.of (aK hs w)) h (eD hs (iI h).2.1)) fun h => hp _ rfl h
theorem dX.ED (F : dX T) (hk : ∀ k a x s', aJ s = (⟨k, a, x⟩, s') → s'.ok → s'.bad = false → s'.rem ≤ s.rem → K (cO.av ⟨k, a, x⟩) (aW s' ++ J))
  (hp : ∀ t s', aJ s = (t, s') → s'.bad = true → KP gup (aW s' ++ J)) : aC T.L 259 [.ptr 1 0] H (d9 K KP) :=
 F.name hs hb J hH (fun h => hk _ _ _ _ rfl (hs.of (bK hs)) h (bK hs).rem) fun h => hp _ _ rfl h
theorem Fy.S9 (F : Fy T) (n d : Nat) (hd : d ≤ 65) (hf : 6 * s.rem + 6 ≤ n) (hk : ∀ k nm ns l s', bG n d s = (.mk k nm ns l, s') → s'.ok → s'.bad = false → s'.rem ≤ s.rem → K (TA.mk k nm ns l).av (aW s' ++ J))
  (hp : ∀ t s', bG n d s = (t, s') → s'.bad = true → KP gup (aW s' ++ J)) : aC T.L 184 [.ptr 1 0, .int .i64 d] H (d9 K KP) := by
 have h := (Ms F n).typ d s hs hb hd hf
 have hle := (bL n).1 d s hs
 generalize bG n d s = q at h hle hk hp
 obtain ⟨⟨k, nm, ns, l⟩, s'⟩ := q
 exact h.to (dh (.int _ _)) (aY _ _) J hH (fun h => hk _ _ _ _ _ rfl (hs.of hle) h hle.rem) fun h => hp _ _ rfl h
theorem PEx.wP {n : Nat} (F : PEx T n) (d : Nat) (hd : d ≤ 65) (hf : 6 * s.rem + 8 ≤ n) (hk : ∀ k p nm v ns l ts s', bY n d s = (.mk k p nm v ns l ts, s') → s'.ok → s'.bad = false → s'.rem ≤ s.rem → K (EA.mk k p nm v ns l ts).av (aW s' ++ J))
  (hp : ∀ t s', bY n d s = (t, s') → s'.bad = true → KP gup (aW s' ++ J)) : aC T.L 261 [.ptr 1 0, .int .i64 d] H (d9 K KP) := by
 have h := F.expr d s hs hb hd hf
 have hle := (fH n).expr d s hs
 generalize bY n d s = q at h hle hk hp
 obtain ⟨⟨k, p, nm, v, ns, l, ts⟩, s'⟩ := q
 exact h.to (dh (.int _ _)) (iF _ _) J hH (fun h => hk _ _ _ _ _ _ _ _ rfl (hs.of hle) h hle.rem) fun h => hp _ _ rfl h
end steps
def kU (x : List (Bytes × EA)) : List au := aS (x.map (·.1))
def kT (x : List (Bytes × EA)) : List au := EA.avs (x.map (·.2))
theorem K3 (x : List (Bytes × EA)) : (kU x).length = x.length := by unfold kU; rw [gY, List.length_map]
theorem KW (x : List (Bytes × EA)) : (kT x).length = x.length := by unfold kT; rw [MU, List.length_map]
def O3 (d : Nat) (t : cO) (x : List (Bytes × EA)) : Nat → aV
 | 0 => bq (kU x).length 10
 | 1 => bq (kT x).length 313
 | 2 => .dead
 | 3 => .cells [.ptr 1 0] 225
 | 4 => .cells [.int .i64 d] 4
 | 5 => .cells [.int .i64 0, .int .i64 0, .str [], .int .i64 0, .lst [] .nil, .lst [] .nil, .lst [] .nil] 313
 | 6 => .cells [.int .i64 t.kind, .int .i64 t.at_, .str t.text] 282
 | _ => .cells [.int .i64 5, .int .i64 t.at_, .str [], .int .i64 0, .lst (kU x) (bM (kU x).length 2), .lst (kT x) (bM (kT x).length 3), .lst [] .nil] 313
theorem yN (d : Nat) (t : cO) (x : List (Bytes × EA)) : ∀ i, i < 8 → bI 10 (O3 d t x i)
 | 0, _ => bF _ _ _
 | 1, _ => bF _ _ _
 | 2, _ => trivial
 | 3, _ => eu ⟨.ptr _ _ (by decide : 1 < 10), trivial⟩
 | 4, _ => eu ⟨.int _ _, trivial⟩
 | 5, _ => eu ⟨.int _ _, .int _ _, .str _, .int _ _, .lst _ _ trivial gN, .lst _ _ trivial gN, .lst _ _ trivial gN, trivial⟩
 | 6, _ => eu ⟨.int _ _, .int _ _, .str _, trivial⟩
 | 7, _ => eu ⟨.int _ _, .int _ _, .str _, .int _ _, gF _ _ _ (dR (by decide : 2 < 10)), .lst _ _ (dR (by decide : 3 < 10)) (vL _ _), .lst _ _ trivial gN, trivial⟩
 | n + 8, h => by omega
theorem GA (F : xP T) {n : Nat} (ih : PEx T n) (d : Nat) (hd : d ≤ 64) (t : cO) (nm : Bytes) (x : List (Bytes × EA)) (s : RS) (hs : s.ok) (hb : s.bad = false) (hf : 6 * s.rem + 8 ≤ n)
  (hl : x.length + s.rem + 1 ≤ 2 ^ 34) :
  aC T.L 323 [.str nm, .ptr 5 0, .ptr 6 0, .ptr 9 0] (aW s ++ kQ (O3 d t) x) fun r H' => ∃ J, wQ T.L r (wE (eSt d n nm x s).2.bad (.tup [])) ∧ H' = aW (eSt d n nm x s).2 ++ (kQ (O3 d t) (eSt d n nm x s).1 ++ J) := by
 refine aG F.Ug (by simp [Rn]) ?_
 unfold eSt
 conv => whnf
 rw [addN (by omega)]
 refine ih.wP hs hb _ rfl (d + 1) (by omega) hf (fun k p en v ns l ts s' hq hs' hb' hr => ?_) fun e s' hq hb' => ?_
 ·rw [hq]
  conv => whnf
  by_cases hne : nm = []
  ·subst hne
   rw [if_pos (.inl rfl)]
   conv => whnf
   exact ⟨_, by rw [hb']; exact Weak.refl _, rfl⟩
  ·rw [if_neg (fun h => h.elim hne fun h => absurd (hb'.symm.trans h) (by decide))]
   rw [show (nm == ([] : Bytes)) = false from by simpa using hne]
   have e1 : kU (x ++ [(nm, .mk k p en v ns l ts)]) = kU x ++ [.str nm] := by simp [kU, aS]
   have e2 : kT (x ++ [(nm, .mk k p en v ns l ts)]) = kT x ++ [(EA.mk k p en v ns l ts).av] := by unfold kT; rw [List.map_append, Df]; rfl
   have n1 := K3 x
   have n2 := KW x
   have sX : dF 1 (kU x) := iP _
   have sY : dF 7 (kT x) := zm _
   have hH : ∀ J : Heap, kQ (O3 d t) (x ++ [(nm, .mk k p en v ns l ts)]) ++ J = [bq (kU x ++ [au.str nm]).length 10, bq (kT x ++ [(EA.mk k p en v ns l ts).av]).length 313, .dead, .cells [.ptr 1 0] 225, .cells [.int .i64 d] 4,
     .cells [.int .i64 0, .int .i64 0, .str [], .int .i64 0, .lst [] .nil, .lst [] .nil, .lst [] .nil] 313, .cells [.int .i64 t.kind, .int .i64 t.at_, .str t.text] 282,
     .cells [.int .i64 5, .int .i64 t.at_, .str [], .int .i64 0, .lst (kU x ++ [au.str nm]) (bM (kU x ++ [au.str nm]).length 2), .lst (kT x ++ [(EA.mk k p en v ns l ts).av]) (bM (kT x ++ [(EA.mk k p en v ns l ts).av]).length 3), .lst [] .nil] 313] ++ J := fun J => by
    rw [← e1, ← e2]; rfl
   have hH0 : kQ (O3 d t) x = [bq (kU x).length 10, bq (kT x).length 313, .dead, .cells [.ptr 1 0] 225, .cells [.int .i64 d] 4,
     .cells [.int .i64 0, .int .i64 0, .str [], .int .i64 0, .lst [] .nil, .lst [] .nil, .lst [] .nil] 313, .cells [.int .i64 t.kind, .int .i64 t.at_, .str t.text] 282,
     .cells [.int .i64 5, .int .i64 t.at_, .str [], .int .i64 0, .lst (kU x) (bM (kU x).length 2), .lst (kT x) (bM (kT x).length 3), .lst [] .nil] 313] := rfl
   rw [hH0]
   simp only [hH]
   generalize kU x = XS at n1 sX ⊢
   generalize kT x = YS at n2 sY ⊢
   clear hH hH0 e1 e2
   have a1 : ∀ {H : Heap} {K : au → Heap → Prop} {tk : Tok}, H[2]? = some (bq XS.length 10) → K (.lst (XS ++ [.str nm]) (bM (XS ++ [au.str nm]).length 2)) (H.set 2 (bq (XS ++ [au.str nm]).length 10)) → lX 1 16 10 (.lst XS (bM XS.length 2)) (.lst [.str nm] tk) H K :=
    fun h1 h2 => dO sX (bO rfl) (by simp [n1]; omega) (by simp [n1]; omega) (by simp) h1 h2
   have a2 : ∀ {H : Heap} {K : au → Heap → Prop} {tk : Tok}, H[3]? = some (bq YS.length 313) → K (.lst (YS ++ [(EA.mk k p en v ns l ts).av]) (bM (YS ++ [(EA.mk k p en v ns l ts).av]).length 3)) (H.set 3 (bq (YS ++ [(EA.mk k p en v ns l ts).av]).length 313)) → lX 7 112 313 (.lst YS (bM YS.length 3)) (.lst [(EA.mk k p en v ns l ts).av] tk) H K :=
    fun h1 h2 => dO sY (bO rfl) (by simp [n2]; omega) (by simp [n2]; omega) (by simp) h1 h2
   conv => whnf
   refine a1 rfl ?_
   conv => whnf
   refine ⟨?_, ?_⟩
   all_goals
    conv => whnf
    refine a2 rfl ?_
    conv => whnf
    exact ⟨_, by rw [hb']; exact Weak.refl _, rfl⟩
 ·rw [hq]
  conv => whnf
  rw [if_pos (.inr hb')]
  exact ⟨_, by rw [hb']; exact Weak.refl _, rfl⟩
def MQ : List au := [.ptr 5 0, .ptr 6 0, .ptr 9 0]
theorem Q5 (F : xP T) (N : Nat) (ih : ∀ m, m ≤ N → PEx T m) (d : Nat) (hd : d ≤ 64) (t : cO) : vC T (O3 d t) (eSt d) (fun x seen => x.map (·.1) = seen) 323 MQ N where
 EG := fun x hx => by
  simp only [MQ, List.mem_cons, List.not_mem_nil, or_false] at hx
  rcases hx with rfl | rfl | rfl <;> exact .ptr _ _ (by decide)
 loo := yN d t
 le := fun n nm x s hs => (fH n).expr (d + 1) s hs
 none := fun n x s seen h => by rw [eSt, if_pos (.inl rfl)]; exact h
 some := fun n nm x s seen h h1 h2 h3 => by
  simp only [eSt] at h3 ⊢
  rw [if_neg (fun e => e.elim h1 fun e => by rw [h3] at e; cases e), List.map_append, h]; rfl
 item := fun n nm x s seen h1 h2 h3 h4 h5 h6 h7 h8 => by
  subst h5
  refine iX.of 0 rfl (mH bD) (kJ (yN d t) _ _) ((GA F (ih n h1) d hd t nm x s h2 h3 h4 (by rw [List.length_map] at h6; exact h6)).mono fun r H' ⟨J, e1, e2⟩ => ⟨_, J, e1, by rw [e2, List.append_assoc], rfl, fun i o o' h1 h2 => by rw [h1] at h2; cases h2; exact bV.refl o⟩)
end Go.Ag
/- Package parse: basic. -/
namespace Go.Ag
open Go
variable {T : Tab} {L : Lnk}
set_option maxHeartbeats 2000000 in
theorem Ir (F : xP T) (n : Nat) (ih : ∀ m, m ≤ n → PEx T m) (d : Nat) (s : RS) (hs : s.ok) (hb : s.bad = false) (hd : d ≤ 64) (hf : 6 * s.rem + 7 ≤ n + 1) : PC T.L 316 [.int .i64 d] s (eY (n + 1) d s).1.av (eY (n + 1) d s).2 := by
 refine PC.of 3 (iF _ _) (aG F.Uh (by simp [Ro]) ?_)
 obtain ⟨R, hR⟩ : ∃ R, eY (n + 1) d s = R := ⟨_, rfl⟩
 rw [hR]
 rw [eY, if_neg (by simp [hb])] at hR
 have F' := F.todX
 conv => whnf
 refine F'.here hs hb _ rfl ?_
 conv => whnf
 cases hk3 : (s.tok.kind == 3)
 ·conv => whnf
  cases hk4 : (s.tok.kind == 4)
  case' true =>
   have h4 : s.tok.kind = 4 := by simpa using hk4
   rw [if_neg (by rw [h4]; decide), if_neg (by rw [h4]; decide), if_pos h4] at hR
   have hk1 : (s.tok.kind == 1) = false := by rw [h4]; rfl
   conv => whnf
   rw [addN hs.i]
   refine ⟨⟨rfl, trivial⟩, ?_⟩
   conv => whnf
   rw [hk1]
   conv => whnf
   subst hR
   exact aQ.ret hb (eG 2 s.tok.at_ s.tok.text 0 [] [] [] _ _ _) rfl
  ·have h4 : ¬ s.tok.kind = 4 := by simpa using hk4
   have h3 : ¬ s.tok.kind = 3 := by simpa using hk3
   conv => whnf
   cases hk1 : (s.tok.kind == 1)
   case' true =>
    have h1 : s.tok.kind = 1 := by simpa using hk1
    rw [if_pos h1] at hR
    conv => whnf
    rw [addN hs.i]
    refine ⟨⟨rfl, trivial⟩, ?_⟩
    conv => whnf
    rw [hk1]
    conv => whnf
    subst hR
    exact aQ.ret hb (eG 4 s.tok.at_ s.tok.text 0 [] [] [] _ _ _) rfl
   ·have h1 : ¬ s.tok.kind = 1 := by simpa using hk1
    rw [if_neg h1, if_neg h3, if_neg h4] at hR
    conv => whnf
    refine F'.qC hs hb _ rfl EJ (fun h5 => ?_) fun s1 h5 hq hs1 hb1 hr => ?_
    ·rw [if_neg (by simp [h5])] at hR
     conv => whnf
     refine F'.qC hs hb _ rfl zI (fun h6 => ?_) fun s1 h6 hq hs1 hb1 hr => ?_
     ·rw [if_neg (by simp [h6])] at hR
      conv => whnf
      refine F'.qC hs hb _ rfl kLb (fun h7 => ?_) fun s1 h7 hq hs1 hb1 hr => ?_
      ·rw [if_neg (by simp [h7])] at hR
       conv => whnf
       refine F'.oH hs hb _ rfl kLp (fun s1 hq hs1 hb1 hr => ?_) fun s1 hq hb1 => ?_
       ·rw [hq, if_neg (by simp [hb1])] at hR
        conv => whnf
        rw [addN (by omega)]
        refine (ih n (Nat.le_refl _)).wP hs1 hb1 _ rfl (d + 1) (by omega) (by omega) (fun k p nm v ns l ts s2 hq hs2 hb2 hr2 => ?_) fun e s2 hq hb2 => ?_
        ·rw [hq] at hR
         obtain ⟨m, rfl⟩ : ∃ m, n = m + 1 := ⟨n - 1, by omega⟩
         rw [asR] at hR
         conv => whnf
         refine F'.qC hs2 hb2 _ rfl aN (fun h8 => ?_) fun s3 h8 hq hs3 hb3 hr3 => ?_
         ·rw [if_neg (by simp [h8])] at hR
          conv => whnf
          refine F'.oH hs2 hb2 _ rfl kRp (fun s3 hq hs3 hb3 hr3 => ?_) fun s3 hq hb3 => ?_
          ·conv => whnf
           rw [hq] at hR
           subst hR
           exact aQ.ret hb3 (Weak.refl _) rfl
          ·conv => whnf
           rw [hq] at hR
           subst hR
           exact aQ.ku rfl hb3 rfl
         ·rw [if_pos h8, hq] at hR
          conv => whnf
          rw [addN (by omega)]
          refine F.toFy.S9 hs3 hb3 _ rfl m (d + 1) (by omega) (by omega) (fun k' nm' ns' l' s4 hq hs4 hb4 hr4 => ?_) fun t s4 hq hb4 => ?_
          ·rw [hq] at hR
           have fin : ∀ {H' : Heap} {J : Heap} {K KP : au → Heap → Prop}, H' = aW s4 ++ J → (∀ s5, R = (.mk 11 s.tok.at_ [] 0 [] [.mk k p nm v ns l ts] [.mk k' nm' ns' l'], s5) → s5.bad = false → K (.tup []) (aW s5 ++ J)) → (R.2.bad = true → KP gup (aW R.2 ++ J)) → aC T.L 260 [.ptr 1 0, .str kRp] H' (d9 K KP) := fun hH hk hp => by
            refine F'.oH hs4 hb4 _ hH kRp (fun s5 hq hs5 hb5 hr5 => ?_) fun s5 hq hb5 => ?_
            ·rw [hq] at hR; exact hk _ hR.symm hb5
            ·rw [hq] at hR
             have : R.2 = s5 := by rw [← hR]
             rw [← this] at hb5 ⊢
             exact hp hb5
           clear hR
           conv => whnf
           refine ⟨⟨rfl, trivial⟩, ?_⟩
           conv => whnf
           refine ⟨?_, ?_⟩
           all_goals conv => whnf
           all_goals
            refine ⟨⟨rfl, trivial⟩, ?_⟩
            conv => whnf
           case' refine_2 =>
            refine ⟨?_, ?_⟩
            all_goals conv => whnf
           all_goals try refine ⟨?_, ?_⟩
           all_goals try conv => whnf
           all_goals
            refine fin rfl (fun s5 hR hb5 => ?_) fun hb5 => ?_
            ·conv => whnf
             subst hR
             exact aQ.ret hb5 (eG 11 s.tok.at_ [] 0 [] [.mk k p nm v ns l ts] [.mk k' nm' ns' l'] _ _ _) rfl
            ·conv => whnf
             exact aQ.pan hb5 rfl
          ·conv => whnf
           rw [hq] at hR
           dsimp only at hR
           rw [bH hb4] at hR
           subst hR
           exact aQ.ku rfl hb4 rfl
        ·conv => whnf
         rw [hq] at hR
         exact aQ.ku (by rw [← hR, (dG n).as_ _ _ _ hb2]) hb2 rfl
       ·conv => whnf
        rw [hq, if_pos hb1] at hR
        subst hR
        exact aQ.ku rfl hb1 rfl
      ·rw [if_pos h7, hq] at hR
       conv => whnf
       have hrel := vg d s.tok.at_ n [] s1 hs1 (by omega)
       have hfs := Az F' F.CU F.h28 (Q5 F n ih d hd s.tok) kEq n [] s1 (Nat.le_refl _) hs1 hb1 (by omega) rfl
       rw [show ([] : List (Bytes × EA)).map (·.1) = [] from rfl, show ([] : List (Bytes × EA)).map (·.2) = [] from rfl, hR] at hrel
       generalize dI kEq (eSt d) n [] [] s1 = G at hrel hfs
       obtain ⟨x', s'⟩ := G
       dsimp only at hrel hfs
       refine hfs.to rfl (fun z hz => ?_) (kJ (yN d s.tok) _ _) (mH bD) (kJ (yN d s.tok) _ _) [] (by rfl) ?_
       ·simp only [List.mem_cons, List.not_mem_nil, or_false] at hz
        rcases hz with rfl | rfl | rfl
        ·exact .ptr _ _ (show 1 < 10 by decide)
        ·exact .str _
        ·exact .fn _ _ _ gN (Q5 F n ih d hd s.tok).EG
       obtain ⟨e1, hrel⟩ := hrel
       rw [e1]
       cases hb' : s'.bad
       ·rw [hrel hb']
        conv => whnf
        exact aQ.ret hb' (eG 5 s.tok.at_ [] 0 (x'.map (·.1)) (x'.map (·.2)) [] _ _ _) rfl
       ·conv => whnf
        exact aQ.pan hb' rfl
     ·rw [if_pos h6, hq] at hR
      conv => whnf
      subst hR
      exact aQ.ret hb1 (eG 3 s.tok.at_ [] 0 [] [] [] _ _ _) rfl
    ·rw [if_pos h5, hq] at hR
     conv => whnf
     subst hR
     exact aQ.ret hb1 (eG 3 s.tok.at_ [] 1 [] [] [] _ _ _) rfl
 ·have h3 : s.tok.kind = 3 := by simpa using hk3
  rw [if_neg (by rw [h3]; decide), if_pos h3] at hR
  have hn := hs.num _ (List.mem_of_getElem? (uy hs)) h3
  conv => whnf
  rw [addN hs.i]
  refine (F.num.num s.tok.text hn).to ?_
  conv => whnf
  subst hR
  exact aQ.ret hb (eG 1 s.tok.at_ [] (sZ s.tok.text) [] [] [] _ _ _) rfl
end Go.Ag
/- Package parse: call, expr; all of expressions. -/
namespace Go.Ag
open Go
variable {T : Tab} {L : Lnk}
def FE : aV := .cells [.int .i64 0, .int .i64 0, .str [], .int .i64 0, .lst [] .nil, .lst [] .nil, .lst [] .nil] 313
def GH (k p : Int) (nm : Bytes) (v : Int) (ns : List Bytes) (l : List EA) (ts : List TA) (t1 t2 t3 : Tok) : aV :=
 .cells [.int .i64 k, .int .i64 p, .str nm, .int .i64 v, .lst (aS ns) t1, .lst (EA.avs l) t2, .lst (TA.avs ts) t3] 313
theorem KT (F : xP T) (n : Nat) (ih : ∀ m, m < n → PEx T m) (Ue : ∀ (d : Nat) (s : RS), s.ok → s.bad = false → d ≤ 64 → 6 * s.rem + 7 ≤ n → PC T.L 316 [.int .i64 d] s (eY n d s).1.av (eY n d s).2)
  (d : Nat) (s : RS) (hs : s.ok) (hb : s.bad = false) (hd : d ≤ 64) (hf : 6 * s.rem + 7 ≤ n) : PC T.L 296 [.int .i64 d] s (Dr n d s).1.av (Dr n d s).2 := by
 refine PC.of 0 (iF _ _) (aG F.Ul (by simp [Rs]) ?_)
 obtain ⟨R, hR⟩ : ∃ R, Dr n d s = R := ⟨_, rfl⟩
 rw [hR]
 unfold Dr at hR
 have F' := F.todX
 have hq := Ue d s hs hb hd hf
 have hle := (fH n).basic d s hs
 have hre := hle.rem
 obtain ⟨q, hqe⟩ : ∃ q, eY n d s = q := ⟨_, rfl⟩
 rw [hqe] at hq hle hR hre
 obtain ⟨⟨a1, a2, a3, a4, a5, a6, a7⟩, s1⟩ := q
 dsimp only at hq hle hR hre
 have hs1 := hs.of hle
 conv => whnf
 refine hq.to (dh (.int _ _)) (iF _ _) _ rfl (fun hb1 => ?_) fun hb1 => ?_
 ·conv => whnf
  intro I hI hG
  have key : ∀ (mm : Nat) (s' : RS) (k p : Int) (nm : Bytes) (v : Int) (ns : List Bytes) (l : List EA) (ts : List TA) (e : Env), mm ≤ n → s'.ok → s'.bad = false → 6 * s'.rem + 7 ≤ mm → R = lM mm d (.mk k p nm v ns l ts) s' →
    I (gQ e [(0, .ptr 1 0), (1, .int .i64 d), (4, .ptr 2 0), (5, .ptr 3 0)]) (aW s' ++ [FE, GH k p nm v ns l ts .none .none .none]) := by
   intro mm
   induction mm with
   | zero => intro s' k p nm v ns l ts e _ _ _ h; omega
   | succ mm ihm =>
    intro s' k p nm v ns l ts e hm hs' hb' hf' hv
    rw [lM] at hv
    have next : ∀ (s2 : RS) (k p : Int) (nm : Bytes) (v : Int) (ns : List Bytes) (l : List EA) (ts : List TA) (t1 t2 t3 : Tok) (e2 : Env) (H2 : Heap), s2.ok → s2.bad = false → 6 * s2.rem + 7 ≤ mm → R = lM mm d (.mk k p nm v ns l ts) s2 →
      H2.take 4 = aW s2 ++ [FE, GH k p nm v ns l ts t1 t2 t3] → iy e2 [(0, .ptr 1 0), (1, .int .i64 d), (4, .ptr 2 0), (5, .ptr 3 0)] → I e2 H2 := fun s2 k p nm v ns l ts t1 t2 t3 e2 H2 c1 cb c2 c3 c4 c5 =>
     hG.IL [(0, .ptr 1 0), (1, .int .i64 d), (4, .ptr 2 0), (5, .ptr 3 0)] (aW s2 ++ [FE, GH k p nm v ns l ts .none .none .none]) (aW s2 ++ [FE, GH k p nm v ns l ts t1 t2 t3]) (H2.drop 4) (by conv => lhs; rw [← List.take_append_drop 4 H2, c4]) (Nat.le_refl 4)
      ⟨bV.refl _, bV.refl _, bV.refl _, ⟨rfl, Weak.refl _, Weak.refl _, Weak.refl _, Weak.refl _, Weak.tok _ _, Weak.tok _ _, Weak.tok _ _, trivial⟩, trivial⟩
      (uF c5 ⟨.ptr _ _ (by decide : 1 < 4), .int _ _, .ptr _ _ (by decide : 2 < 4), .ptr _ _ (by decide : 3 < 4), trivial⟩)
      ⟨bF _ _ _, aI (by decide : 2 ≤ 4) (Cr s2), eu ⟨.int _ _, .int _ _, .str _, .int _ _, .lst _ _ trivial gN, .lst _ _ trivial gN, .lst _ _ trivial gN, trivial⟩,
       eu ⟨.int _ _, .int _ _, .str _, .int _ _, gF _ _ _ trivial, .lst _ _ trivial (vL _ _), .lst _ _ trivial (bC _ _), trivial⟩, trivial⟩
      (ihm s2 k p nm v ns l ts _ (by omega) c1 cb c2 c3)
    apply hI
    conv => whnf
    refine F'.here hs' hb' _ rfl ?_
    conv => whnf
    refine F'.qC hs' hb' _ rfl kLp (fun h3 => ?_) fun s2 h3 hq hs2 hb2 hr => ?_
    ·rw [if_neg (by simp [h3])] at hv
     conv => whnf
     refine F'.qC hs' hb' _ rfl CG (fun h4 => ?_) fun s2 h4 hq hs2 hb2 hr => ?_
     ·rw [if_neg (by simp [h4])] at hv
      subst hv
      conv => whnf
      exact aQ.ret hb' (eG _ _ _ _ _ _ _ _ _ _) rfl
     ·rw [if_pos h4, hq] at hv
      conv => whnf
      refine F'.ED hs2 hb2 _ rfl (fun k2 a2 x2 s3 hq hs3 hb3 hr3 => ?_) fun t s3 hq hb3 => ?_
      ·rw [hq] at hv
       conv => whnf
       exact next s3 _ _ _ _ [] [.mk k p nm v ns l ts] [] _ _ _ _ _ hs3 hb3 (by omega) hv rfl ⟨rfl, rfl, rfl, rfl, trivial⟩
      ·rw [hq] at hv
       conv => whnf
       exact aQ.ku (by rw [hv, (dG _).post _ _ _ hb3]) hb3 rfl
    ·rw [if_pos h3, hq] at hv
     conv => whnf
     rw [addN (by omega)]
     refine (ih mm (by omega)).wP hs2 hb2 _ rfl (d + 1) (by omega) (by omega) (fun c1 c2 c3 c4 c5 c6 c7 s3 hq hs3 hb3 hr3 => ?_) fun t s3 hq hb3 => ?_
     ·rw [hq] at hv
      conv => whnf
      refine F'.oH hs3 hb3 _ rfl kRp (fun s5 hq hs5 hb5 hr5 => ?_) fun s5 hq hb5 => ?_
      ·rw [hq] at hv
       conv => whnf
       exact next s5 _ _ [] 0 [] [.mk k p nm v ns l ts, .mk c1 c2 c3 c4 c5 c6 c7] [] _ _ _ _ _ hs5 hb5 (by omega) hv rfl ⟨rfl, rfl, rfl, rfl, trivial⟩
      ·rw [hq] at hv
       conv => whnf
       exact aQ.ku (by rw [hv, (dG _).post _ _ _ hb5]) hb5 rfl
     ·rw [hq] at hv
      conv => whnf
      dsimp only at hv
      rw [bH hb3] at hv
      exact aQ.ku (by rw [hv, (dG _).post _ _ _ hb3]) hb3 rfl
  exact inv_of [(0, .ptr 1 0), (1, .int .i64 d), (4, .ptr 2 0), (5, .ptr 3 0)] ⟨rfl, rfl, rfl, rfl, trivial⟩ (key n s1 _ _ _ _ _ _ _ _ (Nat.le_refl _) hs1 hb1 (by omega) hR.symm)
 ·conv => whnf
  exact aQ.ku (by rw [← hR, (dG _).post _ _ _ hb1]) hb1 rfl
theorem KR (F : xP T) (n : Nat) (ih : ∀ m, m ≤ n → PEx T m) (d : Nat) (s : RS) (hs : s.ok) (hb : s.bad = false) (hd : d ≤ 65) (hf : 6 * s.rem + 8 ≤ n + 1) : PC T.L 261 [.int .i64 d] s (bY (n + 1) d s).1.av (bY (n + 1) d s).2 := by
 refine PC.of 0 (iF _ _) (aG F.Uy (by simp [RA]) ?_)
 obtain ⟨R, hR⟩ : ∃ R, bY (n + 1) d s = R := ⟨_, rfl⟩
 rw [hR]
 rw [bY] at hR
 have F' := F.todX
 conv => whnf
 refine F'.deep hs hb d _ rfl (fun hd1 => ?_) fun hd1 => ?_
 ·rw [show jN d s = s from if_neg (by omega), if_neg (by simp [hb])] at hR
  conv => whnf
  refine F'.here hs hb _ rfl ?_
  obtain ⟨m, rfl⟩ : ∃ m, n = m + 1 := ⟨n - 1, by omega⟩
  have ihm := ih m (by omega)
  conv => whnf
  refine F'.qC hs hb _ rfl Gu (fun h0 => ?_) fun s1 h0 hq hs1 hb1 hr1 => ?_
  ·rw [if_neg (by simp [h0])] at hR
   conv => whnf
   refine F'.qC hs hb _ rfl tL (fun h1 => ?_) fun s1 h1 hq hs1 hb1 hr1 => ?_
   ·rw [if_neg (by simp [h1])] at hR
    conv => whnf
    refine F'.qC hs hb _ rfl kIf (fun h2 => ?_) fun s1 h2 hq hs1 hb1 hr1 => ?_
    ·rw [if_neg (by simp [h2])] at hR
     conv => whnf
     have hc := (ih (m + 1) (Nat.le_refl _)).call d s hs hb (by omega) (by omega)
     rw [show Dr (m + 1) d s = R from hR] at hc
     obtain ⟨⟨a1, a2, a3, a4, a5, a6, a7⟩, s1⟩ := R
     dsimp only at hc
     refine hc.to (dh (.int _ _)) (iF _ _) _ rfl (fun hb1 => ?_) fun hb1 => ?_
     ·conv => whnf
      exact aQ.ret hb1 (Weak.refl _) rfl
     ·conv => whnf
      exact aQ.pan hb1 rfl
    ·rw [if_pos h2, hq, ifR] at hR
     conv => whnf
     rw [addN (by omega)]
     refine ihm.wP hs1 hb1 _ rfl (d + 1) (by omega) (by omega) (fun a1 a2 a3 a4 a5 a6 a7 s2 hq hs2 hb2 hr2 => ?_) fun t s2 hq hb2 => ?_
     ·rw [hq] at hR
      conv => whnf
      refine F'.oH hs2 hb2 _ rfl EL (fun s3 hq hs3 hb3 hr3 => ?_) fun s3 hq hb3 => ?_
      ·rw [hq] at hR
       conv => whnf
       rw [addN (by omega)]
       refine ihm.wP hs3 hb3 _ rfl (d + 1) (by omega) (by omega) (fun b1 b2 b3 b4 b5 b6 b7 s4 hq hs4 hb4 hr4 => ?_) fun t s4 hq hb4 => ?_
       ·obtain ⟨m', rfl⟩ : ∃ m', m = m' + 1 := ⟨m - 1, by omega⟩
        rw [hq, tZ] at hR
        conv => whnf
        refine F'.oH hs4 hb4 _ rfl kElse (fun s5 hq hs5 hb5 hr5 => ?_) fun s5 hq hb5 => ?_
        ·rw [hq] at hR
         conv => whnf
         rw [addN (by omega)]
         refine (ih m' (by omega)).wP hs5 hb5 _ rfl (d + 1) (by omega) (by omega) (fun c1 c2 c3 c4 c5 c6 c7 s6 hq hs6 hb6 hr6 => ?_) fun t s6 hq hb6 => ?_
         ·rw [hq] at hR
          subst hR
          conv => whnf
          refine ⟨⟨rfl, rfl, trivial⟩, ?_⟩
          conv => whnf
          exact aQ.ret hb6 (eG 10 s.tok.at_ [] 0 [] [.mk a1 a2 a3 a4 a5 a6 a7, .mk b1 b2 b3 b4 b5 b6 b7, .mk c1 c2 c3 c4 c5 c6 c7] [] _ _ _) rfl
         ·rw [hq] at hR
          subst hR
          conv => whnf
          exact aQ.ku rfl hb6 rfl
        ·rw [hq] at hR
         conv => whnf
         exact aQ.ku (by rw [← hR]; exact (dG _).expr _ _ hb5) hb5 rfl
       ·rw [hq] at hR
        conv => whnf
        exact aQ.ku (by rw [← hR]; exact (dG _).el _ _ _ _ hb4) hb4 rfl
      ·rw [hq] at hR
       conv => whnf
       have h := (dG m).expr (d + 1) _ hb3
       exact aQ.ku (by rw [← hR]; exact ((dG _).el _ _ _ _ (by rw [h]; exact hb3)).trans h) hb3 rfl
     ·rw [hq] at hR
      dsimp only at hR
      rw [bH hb2] at hR
      conv => whnf
      have h := (dG m).expr (d + 1) _ hb2
      exact aQ.ku (by rw [← hR]; exact ((dG _).el _ _ _ _ (by rw [h]; exact hb2)).trans h) hb2 rfl
   ·rw [if_pos h1, hq] at hR
    conv => whnf
    refine F'.ED hs1 hb1 _ rfl (fun k2 p2 x2 s2 hq hs2 hb2 hr2 => ?_) fun t s2 hq hb2 => ?_
    ·rw [hq, AV] at hR
     dsimp only at hR
     conv => whnf
     refine F'.oH hs2 hb2 _ rfl kEq (fun s3 hq hs3 hb3 hr3 => ?_) fun s3 hq hb3 => ?_
     ·rw [hq] at hR
      conv => whnf
      rw [addN (by omega)]
      refine ihm.wP hs3 hb3 _ rfl (d + 1) (by omega) (by omega) (fun a1 a2 a3 a4 a5 a6 a7 s4 hq hs4 hb4 hr4 => ?_) fun t s4 hq hb4 => ?_
      ·rw [hq] at hR
       conv => whnf
       refine F'.oH hs4 hb4 _ rfl kIn (fun s5 hq hs5 hb5 hr5 => ?_) fun s5 hq hb5 => ?_
       ·rw [hq] at hR
        conv => whnf
        rw [addN (by omega)]
        refine ihm.wP hs5 hb5 _ rfl (d + 1) (by omega) (by omega) (fun c1 c2 c3 c4 c5 c6 c7 s6 hq hs6 hb6 hr6 => ?_) fun t s6 hq hb6 => ?_
        ·rw [hq] at hR
         subst hR
         conv => whnf
         refine ⟨⟨rfl, trivial⟩, ?_⟩
         conv => whnf
         exact aQ.ret hb6 (eG 9 s.tok.at_ x2 0 [] [.mk a1 a2 a3 a4 a5 a6 a7, .mk c1 c2 c3 c4 c5 c6 c7] [] _ _ _) rfl
        ·rw [hq] at hR
         subst hR
         conv => whnf
         exact aQ.ku rfl hb6 rfl
       ·rw [hq] at hR
        conv => whnf
        exact aQ.ku (by rw [← hR]; exact (dG _).expr _ _ hb5) hb5 rfl
      ·rw [hq] at hR
       dsimp only at hR
       rw [bH hb4] at hR
       conv => whnf
       exact aQ.ku (by rw [← hR]; exact (dG _).expr _ _ hb4) hb4 rfl
     ·rw [hq] at hR
      conv => whnf
      exact aQ.ku (by rw [← hR, (dG _).expr _ _ hb3, bH hb3]; exact (dG _).expr _ _ hb3) hb3 rfl
    ·rw [hq] at hR
     conv => whnf
     exact aQ.ku (by rw [← hR]; exact (dG _).lt _ _ _ hb2) hb2 rfl
  ·rw [if_pos h0, hq] at hR
   conv => whnf
   refine F'.oH hs1 hb1 _ rfl kLp (fun s2 hq hs2 hb2 hr2 => ?_) fun s2 hq hb2 => ?_
   ·rw [hq] at hR
    conv => whnf
    refine F'.ED hs2 hb2 _ rfl (fun k2 p2 x2 s3 hq hs3 hb3 hr3 => ?_) fun t s3 hq hb3 => ?_
    ·rw [hq, AZ] at hR
     dsimp only at hR
     conv => whnf
     refine F'.oH hs3 hb3 _ rfl aN (fun s4 hq hs4 hb4 hr4 => ?_) fun s4 hq hb4 => ?_
     ·rw [hq, if_neg (by simp [hb4])] at hR
      conv => whnf
      rw [addN (by omega)]
      refine F.toFy.S9 hs4 hb4 _ rfl m (d + 1) (by omega) (by omega) (fun a1 a2 a3 a4 s5 hq hs5 hb5 hr5 => ?_) fun t s5 hq hb5 => ?_
      ·rw [hq] at hR
       conv => whnf
       refine F'.oH hs5 hb5 _ rfl kRp (fun s6 hq hs6 hb6 hr6 => ?_) fun s6 hq hb6 => ?_
       ·rw [hq, if_neg (by simp [hb6])] at hR
        conv => whnf
        rw [addN (by omega)]
        refine ihm.wP hs6 hb6 _ rfl (d + 1) (by omega) (by omega) (fun c1 c2 c3 c4 c5 c6 c7 s7 hq hs7 hb7 hr7 => ?_) fun t s7 hq hb7 => ?_
        ·rw [hq] at hR
         subst hR
         conv => whnf
         exact aQ.ret hb7 (eG 8 s.tok.at_ x2 0 [] [.mk c1 c2 c3 c4 c5 c6 c7] [.mk a1 a2 a3 a4] _ _ _) rfl
        ·rw [hq] at hR
         subst hR
         conv => whnf
         exact aQ.ku rfl hb7 rfl
       ·rw [hq, if_pos hb6] at hR
        subst hR
        conv => whnf
        exact aQ.ku rfl hb6 rfl
      ·rw [hq] at hR
       dsimp only at hR
       rw [bH hb5, if_pos hb5] at hR
       subst hR
       conv => whnf
       exact aQ.ku rfl hb5 rfl
     ·rw [hq, if_pos hb4] at hR
      subst hR
      conv => whnf
      exact aQ.ku rfl hb4 rfl
    ·rw [hq] at hR
     conv => whnf
     exact aQ.ku (by rw [← hR]; exact (dG _).fn _ _ _ hb3) hb3 rfl
   ·rw [hq, Ol hb2] at hR
    conv => whnf
    exact aQ.ku (by rw [← hR]; exact (dG _).fn _ _ _ hb2) hb2 rfl
 ·rw [show jN d s = bX s 3 from if_pos hd1, if_pos (fI s 3)] at hR
  subst hR
  conv => whnf
  exact aQ.pan (fI _ _) rfl
theorem TM (F : xP T) : ∀ n, PEx T n := fun n => Nat.strongRecOn n fun n ih => by
 cases n with
 | zero => exact ⟨fun d s hs hb hd hf => by omega, fun d s hs hb hd hf => by omega, fun d s hs hb hd hf => by omega⟩
 | succ n =>
  have ih' : ∀ m, m ≤ n → PEx T m := fun m hm => ih m (by omega)
  have Ue := fun d s hs hb hd hf => Ir F n ih' d s hs hb hd hf
  exact ⟨fun d s hs hb hd hf => KR F n ih' d s hs hb hd hf, fun d s hs hb hd hf => KT F (n + 1) ih Ue d s hs hb hd hf, Ue⟩
end Go.Ag
/- Package parse: decl, skip, Parse. -/
namespace Go.Ag
open Go
variable {T : Tab} {L : Lnk}
structure y7 (T : Tab) : Prop extends xP T, G6 T where
 UZ : T.has 189 R5
 UK : T.has 227 RO
 UJ : T.has 228 RN
 UH : T.has 229 RL
theorem KS (F : y7 T) (n : Nat) (s : RS) (hs : s.ok) (hb : s.bad = false) (hf : 6 * s.rem + 8 ≤ n) : PC T.L 228 [] s (fC n s).1.av (fC n s).2 := by
 refine PC.of 0 (uQ _ _) (aG F.UJ (by simp [RN]) ?_)
 obtain ⟨R, hR⟩ : ∃ R, fC n s = R := ⟨_, rfl⟩
 rw [hR]
 unfold fC at hR
 have F' := F.todX
 have hE := TM F.toxP n
 conv => whnf
 refine F'.qC hs hb _ rfl DK (fun h0 => ?_) fun s1 h0 hq hs1 hb1 hr1 => ?_
 ·rw [if_neg (by simp [h0])] at hR
  conv => whnf
  refine F'.qC hs hb _ rfl ni (fun h1 => ?_) fun s1 h1 hq hs1 hb1 hr1 => ?_
  ·rw [if_neg (by simp [h1])] at hR
   conv => whnf
   refine F'.qC hs hb _ rfl tL (fun h2 => ?_) fun s1 h2 hq hs1 hb1 hr1 => ?_
   ·rw [if_neg (by simp [h2])] at hR
    subst hR
    conv => whnf
    refine F'.fail hs hb 2 _ rfl ?_
    conv => whnf
    exact aQ.pan (fI _ _) rfl
   ·rw [if_pos h2, hq] at hR
    conv => whnf
    refine F'.ED hs1 hb1 _ rfl (fun k2 p2 x2 s2 hq hs2 hb2 hr2 => ?_) fun t s2 hq hb2 => ?_
    ·rw [hq, AB] at hR
     dsimp only at hR
     conv => whnf
     refine ⟨⟨rfl, trivial⟩, ?_⟩
     conv => whnf
     refine F'.qC hs2 hb2 _ rfl aN (fun h3 => ?_) fun s3 h3 hq hs3 hb3 hr3 => ?_
     case' refine_1 =>
      rw [if_neg (by simp [h3])] at hR
      obtain ⟨ts, hts⟩ : ∃ ts : List TA, ts = [] := ⟨_, rfl⟩
      rw [← hts] at hR
      have hs4 := hs2
      have hb4 := hb2
      have hr4 : s2.rem ≤ s2.rem := Nat.le_refl _
      obtain ⟨s4, Wl⟩ : ∃ s4, s4 = s2 := ⟨_, rfl⟩
      rw [← Wl] at hR hs4 hb4
      rw [← Wl]
      replace hr4 : s4.rem ≤ s2.rem := by rw [Wl]; exact Nat.le_refl _
      conv => whnf
     case' refine_2 =>
      rw [if_pos h3, hq] at hR
      conv => whnf
      refine F.toFy.S9 hs3 hb3 _ rfl n 1 (by omega) (by omega) (fun a1 a2 a3 a4 s4 hq hs4 hb4 hr4 => ?_) (fun t s4 hq hb4 => by
       rw [hq] at hR
       have e1 : R.2 = s4 := by
        rw [← hR, uf]
        dsimp only
        rw [bH hb4, (dG n).expr _ _ hb4, bH hb4]
       conv => whnf
       exact aQ.ku e1 hb4 rfl)
      rw [hq] at hR
      obtain ⟨ts, hts⟩ : ∃ ts : List TA, ts = [.mk a1 a2 a3 a4] := ⟨_, rfl⟩
      rw [← hts] at hR
      conv => whnf
     all_goals
      rw [uf] at hR
      refine F'.oH hs4 hb4 _ rfl kEq (fun s5 hq hs5 hb5 hr5 => ?_) fun s5 hq hb5 => ?_
      ·rw [hq] at hR
       conv => whnf
       refine hE.wP hs5 hb5 _ rfl 1 (by omega) (by omega) (fun c1 c2 c3 c4 c5 c6 c7 s6 hq hs6 hb6 hr6 => ?_) fun t s6 hq hb6 => ?_
       ·rw [hq] at hR
        conv => whnf
        refine F'.oH hs6 hb6 _ rfl iT (fun s7 hq hs7 hb7 hr7 => ?_) fun s7 hq hb7 => ?_
        ·rw [hq] at hR
         subst hR
         subst hts
         conv => whnf
         first
         | exact aQ.ret hb7 (kH 3 p2 x2 [] [.mk c1 c2 c3 c4 c5 c6 c7] _ _) rfl
         | exact aQ.ret hb7 (kH 3 p2 x2 [.mk a1 a2 a3 a4] [.mk c1 c2 c3 c4 c5 c6 c7] _ _) rfl
        ·rw [hq] at hR
         subst hR
         conv => whnf
         exact aQ.ku rfl hb7 rfl
       ·rw [hq] at hR
        dsimp only at hR
        rw [bH hb6] at hR
        subst hR
        conv => whnf
        exact aQ.ku rfl hb6 rfl
      ·rw [hq] at hR
       have h := (dG n).expr 1 _ hb5
       rw [h, bH hb5] at hR
       subst hR
       conv => whnf
       exact aQ.ku rfl hb5 rfl
    ·rw [hq] at hR
     have e1 : R.2 = s2 := by
      have h := (dG n).expr 1 _ hb2
      rw [← hR, AB]
      dsimp only
      rw [kK hb2, if_neg (by simp), uf]
      dsimp only
      rw [bH hb2, h, bH hb2]
     conv => whnf
     exact aQ.ku e1 hb2 rfl
  ·rw [if_pos h1, hq] at hR
   conv => whnf
   refine F'.ED hs1 hb1 _ rfl (fun k2 p2 x2 s2 hq hs2 hb2 hr2 => ?_) fun t s2 hq hb2 => ?_
   ·rw [hq, declT] at hR
    dsimp only at hR
    conv => whnf
    refine ⟨⟨rfl, trivial⟩, ?_⟩
    conv => whnf
    refine F'.oH hs2 hb2 _ rfl kEq (fun s3 hq hs3 hb3 hr3 => ?_) fun s3 hq hb3 => ?_
    ·rw [hq] at hR
     conv => whnf
     refine F.toFy.S9 hs3 hb3 _ rfl n 1 (by omega) (by omega) (fun a1 a2 a3 a4 s4 hq hs4 hb4 hr4 => ?_) fun t s4 hq hb4 => ?_
     ·rw [hq] at hR
      conv => whnf
      refine F'.oH hs4 hb4 _ rfl iT (fun s5 hq hs5 hb5 hr5 => ?_) fun s5 hq hb5 => ?_
      ·rw [hq] at hR
       subst hR
       conv => whnf
       exact aQ.ret hb5 (kH 2 p2 x2 [.mk a1 a2 a3 a4] [] _ _) rfl
      ·rw [hq] at hR
       subst hR
       conv => whnf
       exact aQ.ku rfl hb5 rfl
     ·rw [hq] at hR
      dsimp only at hR
      rw [bH hb4] at hR
      subst hR
      conv => whnf
      exact aQ.ku rfl hb4 rfl
    ·rw [hq] at hR
     have h := (r9 n).1 1 _ hb3
     rw [h, bH hb3] at hR
     subst hR
     conv => whnf
     exact aQ.ku rfl hb3 rfl
   ·rw [hq] at hR
    have e1 : R.2 = s2 := by
     have h := (r9 n).1 1 _ hb2
     rw [← hR, declT]
     dsimp only
     rw [bH hb2, h, bH hb2]
    conv => whnf
    exact aQ.ku e1 hb2 rfl
 ·rw [if_pos h0, hq] at hR
  conv => whnf
  refine F'.ED hs1 hb1 _ rfl (fun k2 p2 x2 s2 hq hs2 hb2 hr2 => ?_) fun t s2 hq hb2 => ?_
  ·rw [hq, JL] at hR
   dsimp only at hR
   conv => whnf
   refine ⟨⟨rfl, trivial⟩, ?_⟩
   conv => whnf
   refine F'.oH hs2 hb2 _ rfl iT (fun s3 hq hs3 hb3 hr3 => ?_) fun s3 hq hb3 => ?_
   ·rw [hq] at hR
    subst hR
    conv => whnf
    exact aQ.ret hb3 (kH 1 p2 x2 [] [] _ _) rfl
   ·rw [hq] at hR
    subst hR
    conv => whnf
    exact aQ.ku rfl hb3 rfl
  ·rw [hq, JL] at hR
   dsimp only at hR
   rw [bH hb2] at hR
   subst hR
   conv => whnf
   exact aQ.ku rfl hb2 rfl
theorem KL (F : y7 T) (g : RS) (hg : g.ok) (hb : g.bad = false) : PC T.L 229 [] g (.tup []) (iZ (mq g.rem g)) := by
 refine PC.of 0 bD (aG F.UH (by simp [RL]) ?_)
 have F' := F.todX
 obtain ⟨R, hR⟩ : ∃ R, iZ (mq g.rem g) = R := ⟨_, rfl⟩
 rw [hR]
 conv => whnf
 intro I hI hG
 have key : ∀ (m : Nat) (s : RS) (e : Env), s.ok → s.bad = false → s.rem ≤ m → iZ (mq m s) = R → I (gQ e [(0, .ptr 1 0)]) (aW s) := by
  intro m
  induction m with
  | zero =>
   intro s e h1 _ h2
   have := h1.lt
   unfold RS.rem at h2
   omega
  | succ m ih =>
   intro s e hs hb hr hv
   rw [mq] at hv
   apply hI
   conv => whnf
   refine F'.here hs hb [] (by simp) ?_
   conv => whnf
   cases hk : (s.tok.kind != 6)
   ·have MN : isR s iT = false := by
     cases h : isR s iT
     ·rfl
     ·exact absurd (vO h).1 (by simpa using hk)
    rw [if_neg (by simp [hk]), iZ, if_neg (by simp [MN])] at hv
    subst hv
    conv => whnf
    exact aQ.ret hb (Weak.refl _) rfl
   ·conv => whnf
    refine F'.qC hs hb [] (by rfl) iT (fun h => ?_) fun s2 h hq hs2 hb2 hr2 => ?_
    ·rw [if_pos (by simp [hk, h])] at hv
     conv => whnf
     rw [addN hs.i]
     have hle2 := mG hs (by simpa using hk)
     have hlt := hle2.lt
     simp only at hlt
     exact inv_of [(0, .ptr 1 0)] ⟨rfl, trivial⟩ (ih { s with i := s.i + 1 } _ (hs.of hle2) hb (by unfold RS.rem at *; simp only; omega) hv)
    ·rw [if_neg (by simp [h]), iZ, if_pos h] at hv
     have : R = s2 := by rw [← hv, ← hq, jy h]
     rw [this]
     conv => whnf
     exact aQ.ret hb2 (Weak.refl _) rfl
 have : aW g ++ List.replicate 0 .dead = aW g := by simp
 exact inv_of [(0, .ptr 1 0)] ⟨rfl, trivial⟩ (key _ _ _ hg hb (Nat.le_refl _) hR)
end Go.Ag
/- Package parse: Parse: the declarations are those of the document's reader. -/
namespace Go.Ag
open Go
variable {T : Tab} {L : Lnk}
def VK : aV := .cells [.int .i64 0, .int .i64 0, .str [], .lst [] .nil, .lst [] .nil] 242
def dcell (d : dS) : aV := .cells [.int .i64 d.kind, .int .i64 d.at_, .str d.name, .lst (TA.avs d.ts) .none, .lst (EA.avs d.es) .none] 242
theorem LY (F : y7 T) (src : Bytes) (hs : src.length ≤ 2 ^ 31) : Pure T.L 189 [.str src] (.tup [.lst ((fQ src).1.map dS.av) .none, .lst ((fQ src).2.diags.map bP.av) .none]) := by
 refine Pure.KD 3 (dh (.str _)) (.tup _ (kM.at ⟨.lst _ _ trivial (vM _ _), gG _ _ _ trivial, trivial⟩)) (aG F.UZ (by simp [R5]) ?_)
 obtain ⟨hok, hlen, hdl⟩ := mh src (by omega)
 obtain ⟨R, hR⟩ : ∃ R, fQ src = R := ⟨_, rfl⟩
 rw [hR]
 unfold fQ at hR
 have hn : 6 * (bE src).rem + 8 ≤ nY src := Nat.le_refl _
 generalize nY src = n at hR hn
 conv => whnf
 refine (SS F.lex src hs (i := 0) (j := 1) rfl rfl (by decide)).to1 ?_
 conv => whnf
 intro I hI hG
 have key : ∀ (k : Nat) (s : RS) (l : List dS) (XS : List au) (e : Env), s.okN k → s.bad = false → s.rem ≤ k → 6 * s.rem + 8 ≤ n → l.length + s.rem ≤ 2 ^ 34 → R = jl n k l s → XS = l.map dS.av →
   I (gQ e [(6, .ptr 4 0), (7, .lst XS (bM XS.length 2))]) [.gone, bq s.diags.length 333, bq XS.length 242, pR 1 s, .cells [.ptr 3 0] 225] := by
  intro k
  induction k with
  | zero =>
   intro s l XS e hk hb hr
   have := hk.lt
   unfold RS.rem at hr
   omega
  | succ k ih =>
   intro s l XS e hsN hb hr hfu hll hv hX
   have hs1 := hsN.ok
   rw [jl] at hv
   have next : ∀ (s2 : RS) (l2 : List dS) (YS : List au) (e2 : Env) (H2 : Heap), s2.okN k → s2.bad = false → s2.rem ≤ k → 6 * s2.rem + 8 ≤ n → l2.length + s2.rem ≤ 2 ^ 34 → R = jl n k l2 s2 → YS = l2.map dS.av →
     H2.take 5 = [.gone, bq s2.diags.length 333, bq YS.length 242, pR 1 s2, .cells [.ptr 3 0] 225] → iy e2 [(6, .ptr 4 0), (7, .lst YS (bM YS.length 2))] → I e2 H2 := fun s2 l2 YS e2 H2 c1 c2 c3 c4 c5 c6 c7 c8 c9 =>
    hG.keep [(6, .ptr 4 0), (7, .lst YS (bM YS.length 2))] [.gone, bq s2.diags.length 333, bq YS.length 242, pR 1 s2, .cells [.ptr 3 0] 225] (Nat.le_refl 5) c8 c9
     ⟨.ptr _ _ (by decide : 4 < 5), .lst _ _ (dR (by decide : 2 < 5)) (by rw [c7]; exact vM _ _), trivial⟩
     ⟨trivial, bF _ _ _, bF _ _ _, eu ⟨jB _ _ _ trivial, .int _ _, gG _ _ _ (dR (by decide : 1 < 5)), trivial⟩, eu ⟨.ptr _ _ (by decide : 3 < 5), trivial⟩, trivial⟩ (ih s2 l2 YS _ c1 c2 c3 c4 c5 c6 c7)
   apply hI
   conv => whnf
   refine ((zL F.todX s hs1 hb).at2 (fun x hx => by cases hx) (nI 0 _) (d := 1) (p := 3) rfl rfl (by decide)).toR ?_
   rw [hb]
   conv => whnf
   cases hk6 : (s.tok.kind != 6)
   ·rw [if_neg (by simp [hk6])] at hv
    subst hv hX
    conv => whnf
    exact aH (Weak.tup ⟨Weak.tok _ _, Weak.tok _ _, trivial⟩)
   ·rw [if_pos hk6] at hv
    conv => whnf
    have hd := KS F n s hs1 hb hfu
    have hle := Bl (n := n) hs1
    have hrr := vF (n := n) hsN hb (by simpa using hk6)
    obtain ⟨q, hq⟩ : ∃ q, fC n s = q := ⟨_, rfl⟩
    rw [hq] at hd hle hrr hv
    have hs2 := hs1.of hle
    obtain ⟨⟨dk, dp, dn, dts, des⟩, s'⟩ := q
    dsimp only at hd hle hrr hv hs2
    refine F.cau.to (b := s'.bad) (H1 := [.gone, bq s'.diags.length 333, bq XS.length 242, pR 1 s', .cells [.ptr 3 0] 225, if s'.bad then VK else dcell ⟨dk, dp, dn, dts, des⟩]) ?_ ?_
    ·refine aG F.UK (by simp [RO]) ?_
     conv => whnf
     refine (hd.at2 (fun x hx => by cases hx) (uQ 0 _) (d := 1) (p := 3) rfl rfl (by decide)).toR ?_
     cases s'.bad
     ·conv => whnf
      exact ⟨rfl, rfl⟩
     ·conv => whnf
      exact ⟨rfl, rfl⟩
    ·conv => whnf
     cases hb2 : s'.bad
     ·rw [if_neg (by simp [hb2])] at hv
      obtain ⟨k1, k2⟩ := hrr.1 hb2
      conv => whnf
      refine dO (id := 2) (by rw [hX]; exact Af l) (bO rfl) (by rw [hX]; simp; omega) (by rw [hX]; simp; omega) (by simp) rfl ?_
      conv => whnf
      exact next s' (l ++ [⟨dk, dp, dn, dts, des⟩]) _ _ _ k1 hb2 (by omega) (by omega) (by simp; omega) hv (by rw [hX]; simp; rfl) rfl ⟨rfl, rfl, trivial⟩
     ·rw [if_pos hb2] at hv
      obtain ⟨k1, k2, k3⟩ := hrr.2 hb2
      have hgood := ((hsN.of hle).good).ok
      have hsk := KL F { s' with bad := false } hgood rfl
      have hag : iZ (mq ({ s' with bad := false } : RS).rem { s' with bad := false }) = iZ (oG s') := rfl
      rw [hag] at hsk
      generalize iZ (oG s') = g at hsk hv k1 k2 k3
      conv => whnf
      refine (hsk.at2 (fun x hx => by cases hx) bD (d := 1) (p := 3) rfl rfl (by decide)).toR ?_
      rw [k3]
      conv => whnf
      exact next g l XS _ _ k1 k3 (by omega) (by omega) (by omega) hv hX rfl ⟨rfl, rfl, trivial⟩
 have zK : (bE src).rem ≤ src.length + 1 := by unfold RS.rem; omega
 refine inv_of [(6, .ptr 4 0), (7, .lst [] .nil)] ⟨rfl, rfl, trivial⟩ (key (bE src).rem (bE src) [] [] _ ⟨hok.lt, hok.more, hok.len, hok.txt, ?_, hok.named, hok.num⟩ rfl (Nat.le_refl _) hn (by simp; omega) hR.symm rfl)
 have hp : (bE src).pot ≤ (bE src).diags.length + 2 * (bE src).toks.length + 1 := by
  unfold RS.pot
  split <;> omega
 omega
end Go.Ag
/- Package types: Size; cupelref07.Size; cupellaw08.Small. -/
namespace Go.Ag
open Go
variable {T : Tab} {L : Lnk}
theorem wm : ∀ (n : Nat) (t : TA), wtT t ≤ n → 16 * (allT t).length ≤ wtT t
 | 0 => fun t h => by obtain ⟨k, nm, ns, l⟩ := t; rw [wtT] at h; omega
 | n + 1 => fun t h => by
  obtain ⟨k, nm, ns, l⟩ := t
  rw [wtT] at h ⊢
  rw [allT, List.length_cons]
  have : ∀ l : List TA, wtL l ≤ n → 16 * (sj l).length ≤ wtL l := fun l => by
   induction l with
   | nil => intro _; simp [sj]
   | cons a l ih =>
    intro h
    rw [wtL] at h ⊢
    rw [sj, List.length_append]
    have h1 := wm n a (by omega)
    have h2 := ih (by omega)
    omega
  have h2 := this l (by omega)
  omega
def szT (t : TA) : Nat := (allT t).length
def szL (l : List TA) : Nat := (sj l).length
theorem mg (k : Int) (nm : Bytes) (ns : List Bytes) (l : List TA) : szT (.mk k nm ns l) = szL l + 1 := by unfold szT szL; rw [allT, List.length_cons]
theorem gM (t : TA) (l : List TA) : szL (t :: l) = szT t + szL l := by unfold szT szL; rw [sj, List.length_append]
theorem FN (t : TA) : 1 ≤ szT t := by obtain ⟨k, nm, ns, l⟩ := t; rw [mg]; omega
theorem Ht (l : List TA) (j : Nat) (h : j < l.length) : szL (l.take (j + 1)) = szL (l.take j) + szT l[j] := by
 have app : ∀ a b : List TA, szL (a ++ b) = szL a + szL b := fun a b => by
  induction a with
  | nil => simp [szL, sj]
  | cons t a ih => rw [List.cons_append, gM, gM, ih]; omega
 rw [List.take_succ_eq_append_getElem h, app, gM]
 simp [szL, sj]
theorem FQ : ∀ {l : List TA} {t : TA}, t ∈ l → szT t ≤ szL l
 | [], t, h => by cases h
 | a :: l, t, h => by
  rw [gM]
  rcases List.mem_cons.1 h with rfl | h
  ·omega
  ·have := FQ h; omega
structure SI (T : Tab) : Prop where
 Ve : T.has 143 Sn
 OQ : T.has 185 Nl
 Jm : T.has 222 Nj
 OP : T.has 223 Ni
theorem Fz (F : SI T) (t : TA) (hw : wtT t ≤ 2 ^ 44) : Pure T.L 143 [t.av] (.int .i64 (szT t)) := by
 refine Pure.KD 1 (dh (aY _ _)) (.int _ _) (aG F.Ve (by simp [Sn]) ?_)
 have hall := SE F.OQ t
 have hlen := wm _ t (Nat.le_refl _)
 unfold szT
 have hlt : (cK t) = cK t := rfl
 have yL := fun p r hlow hr BB hB st μ hμ hy => Kn (T := T) (σ := Nat) F.OP p r hlow hr BB hB st μ hμ hy (wtT t + 1) t (Nat.lt_succ_self _) hw 0
 have Jm := F.Jm
 obtain ⟨k, nm, ns, l⟩ := t
 conv => whnf
 refine (hall _).to1 ?_
 conv => whnf
 intro r hr hyp
 have hlr : ∀ i, Low 5 (r.e i) := by
  rw [hr]
  refine jc ?_ (.fn _ _ _ gN (dh (.ptr _ _ (by decide : 3 < 5))))
  refine jc ?_ (aY 5 (.mk k nm ns l))
  refine jc ?_ .undef
  refine jc ?_ (.ptr _ _ (by decide : 2 < 5))
  refine jc ?_ (.int _ _)
  refine jc ?_ (.ptr _ _ (by decide : 1 < 5))
  exact IQ (dh (aY 5 (.mk k nm ns l)))
 obtain ⟨p, hp⟩ : ∃ p : Nat → Nat → aV, p = fun n i => match i with
  | 0 => .dead
  | 1 => cK (.mk k nm ns l)
  | 2 => .cells [.int .i64 n] 4
  | _ => cK (.mk k nm ns l) := ⟨_, rfl⟩
 obtain ⟨BB, hBB⟩ : ∃ BB : Nat → Heap, BB = fun n : Nat => [.dead, cK (.mk k nm ns l), .cells [.int .i64 ((n : Nat) : Int)] 4, cK (.mk k nm ns l), .loop r .ready] := ⟨_, rfl⟩
 have hBl : ∀ s, (BB s).length = 5 ∧ ∀ o ∈ BB s, bI 5 o := fun s => by
  rw [hBB]
  exact ⟨rfl, gK.at ⟨trivial, aI (Nat.zero_le _) (cZ _), eu ⟨.int _ _, trivial⟩, aI (Nat.zero_le _) (cZ _), hlr, trivial⟩⟩
 have CR : ∀ (s : Nat) (t : TA), s + 1 ≤ 2 ^ 45 → jI T.L 4 [t.av] (BB s) (.ret (.bool true)) (BB (s + 1)) := fun s t hs => by
  refine jI.of (by rw [(hBl _).1, (hBl _).1]) (.bool _) (by rw [(hBl s).1]; exact (hBl _).2) ((hyp [t.av] (BB s) (fun r' H' => r' = .ret (.bool true) ∧ ∃ J, H' = BB (s + 1) ++ J) rfl (by rw [hBB]; rfl) ?_).mono fun r' H' ⟨e2, J, e3⟩ => ⟨_, J, by rw [e2]; exact Weak.refl _, e3, rfl, fun i x y h1 h2 => by rw [h1] at h2; cases h2; exact bV.refl x⟩)
  obtain ⟨fin, hfin⟩ : ∃ fin, BB (s + 1) = fin := ⟨_, rfl⟩
  rw [hfin]
  rw [hBB] at hfin ⊢
  conv => whnf
  refine ⟨rfl, ?_⟩
  conv => whnf
  rw [addN (by omega)]
  subst hfin
  exact ⟨rfl, rfl, [], rfl⟩
 have h2 := yL p r (fun s i hi => by
  rw [hp]
  match i, hi with
  | 0, _ => exact trivial
  | 1, _ => exact aI (Nat.zero_le _) (cZ (.mk k nm ns l))
  | 2, _ => exact eu ⟨.int _ _, trivial⟩
  | 3, _ => exact aI (Nat.zero_le _) (cZ (.mk k nm ns l))
  | i + 4, h => omega) hlr BB (fun s => by rw [hBB, hp]; rfl) (fun s _ => s + 1) (fun s => s) (fun s t => Nat.le_refl _) CR (by omega)
 have hcount : ∀ (l : List TA) (s : Nat), l.foldl (fun s _ => s + 1) s = s + l.length := fun l => by
  induction l with
  | nil => intro s; rfl
  | cons a l ih => intro s; rw [List.foldl_cons, ih, List.length_cons]; omega
 rw [hcount, Nat.zero_add] at h2
 have h3 := Pv Jm (.mk k nm ns l) 3 _ (by rw [hBB]; rfl) h2
 have hB0 : BB 0 = [.dead, cK (.mk k nm ns l), .cells [.int .i64 0] 4, cK (.mk k nm ns l), .loop r .ready] := by rw [hBB]; rfl
 rw [hB0] at h3
 refine h3.mono fun r' H' ⟨e1, e2⟩ => ?_
 clear h3 h2 CR hyp yL
 subst e1
 rw [hBB] at e2
 subst e2
 conv => whnf
 refine ⟨rfl, ?_⟩
 conv => whnf
 exact aH (Weak.refl _)
theorem Ah (Ll : T.has 190 Nk) : ∀ (n : Nat) (t : TA), wtT t < n → wtT t ≤ 2 ^ 40 → Pure T.L 190 [t.av] (.int .i64 (szT t))
 | 0 => fun t h => by omega
 | n + 1 => fun t hlt hw => by
  have ih := Ah Ll n
  have hlen := wm _ t (Nat.le_refl _)
  obtain ⟨k, nm, ns, l⟩ := t
  refine Pure.run (dh (aY _ _)) (.int _ _) (aG Ll (by simp [Nk]) ?_)
  have hsz : szL l + 1 ≤ 2 ^ 40 := by rw [← mg k nm ns l]; unfold szT; omega
  rw [mg]
  conv => whnf
  intro I hI hG
  have key : ∀ (d j : Nat) (e : Env), l.length - j = d → j ≤ l.length → I (gQ e [(1, .ptr 0 0), (3, .int .i64 ((szL (l.take j) + 1 : Nat) : Int)), (4, .int .i64 j)]) [.cells [.int .i64 k, .str nm, .lst (aS ns) .none, .lst (TA.avs l) .none] 109] := by
   intro d
   induction d with
   | zero =>
    intro j e hd hj
    have hjl : j = l.length := by omega
    apply hI
    conv => whnf
    rw [show decide (((j : Nat) : Int) < (((TA.avs l).length : Nat) : Int)) = false from by rw [dH, hjl]; simp]
    conv => whnf
    rw [hjl, List.take_length]
    exact aH (Weak.refl _)
   | succ d ihd =>
    intro j e hd hj
    have hjl : j < l.length := by omega
    have hget := sJ hjl
    have hmem := List.getElem_mem hjl
    have hwl := gP hmem
    have hll := oQ l
    rw [wtT] at hlt hw
    have hc := ih l[j] (by omega) (by omega)
    have hnext := fun e => ihd (j + 1) e (by omega) hjl
    rw [Ht l j hjl] at hnext
    have hs : szL (l.take j) + szT l[j] ≤ szL l := by
     rw [← Ht l j hjl]
     have : ∀ (a b : List TA), szL a ≤ szL (a ++ b) := fun a b => by
      induction a with
      | nil => simp [szL, sj]
      | cons t a ih => rw [List.cons_append, gM, gM]; omega
     have h2 := this (l.take (j + 1)) (l.drop (j + 1))
     rwa [List.take_append_drop] at h2
    generalize l[j] = v at hget hc hnext hs
    apply hI
    obtain ⟨vk, vn, vs, vl⟩ := v
    conv => whnf
    rw [show decide (((j : Nat) : Int) < (((TA.avs l).length : Nat) : Int)) = true from by rw [dH]; simp; omega]
    conv => whnf
    refine step_elem (Int.natCast_nonneg _) hget rfl ?_
    conv => whnf
    refine hc.to ?_
    conv => whnf
    refine inv_of [(1, .ptr 0 0), (3, .int .i64 ((szL (l.take j) + szT (.mk vk vn vs vl) + 1 : Nat) : Int)), (4, .int .i64 (j + 1 : Nat))] ⟨rfl, ?_, add1 (by omega), trivial⟩ (hnext _)
    show au.int .i64 (IntKind.i64.wrap (((szL (l.take j) + 1 : Nat) : Int) + ((szT (.mk vk vn vs vl) : Nat) : Int))) = _
    rw [IntWalk.i64_in _ (by omega)]
    congr 1
    omega
  exact inv_of [(1, .ptr 0 0), (3, .int .i64 1), (4, .int .i64 0)] ⟨rfl, rfl, rfl, trivial⟩ (key l.length 0 _ rfl (Nat.zero_le _))
end Go.Ag
/- The types that a reader reads are good ones, and no bigger than their text. -/
namespace Go.Ag
open Go
def su (m : Nat) (s : RS) : Prop := ∀ t ∈ s.toks, (t.kind = 1 → kD t.text) ∧ t.text.length ≤ m
theorem su.le {m : Nat} {s s' : RS} (h : su m s) (hl : s.le s') : su m s' := by unfold su; rw [hl.toks]; exact h
theorem Eb {s : RS} {w : Bytes} (h : s.bad = true) : aD s w = s := by
 unfold aD isR bX
 simp [h]
theorem O9 {s : RS} (h : (eU s).bad = false) : s.bad = false := by
 cases hb : s.bad
 ·rfl
 ·exfalso
  unfold eU at h
  have h1 : isR s kRb = false := by unfold isR; simp [hb]
  rw [h1, Eb hb, h1] at h
  simp [hb] at h
theorem SA {n d : Nat} {l : List TA} {s : RS} (h : (iE n d l s).2.bad = false) : s.bad = false := by
 cases hb : s.bad
 ·rfl
 ·exfalso
  have h1 : isR s lJ = false := by unfold isR; simp [hb]
  cases n with
  | zero => rw [iE] at h; rw [hb] at h; cases h
  | succ n => rw [iE, h1] at h; simp [hb] at h
theorem Lv {n d : Nat} {o : TA} {s : RS} (h : (bT n d o s).2.bad = false) : s.bad = false := by
 cases hb : s.bad
 ·rfl
 ·exfalso
  cases n with
  | zero => rw [bT] at h; rw [hb] at h; cases h
  | succ n => rw [bT] at h; simp [hb, Eb hb] at h
theorem Pp {n d : Nat} {s : RS} (h : (bN n d s).2.bad = false) (hn : 2 ≤ n) : s.bad = false := by
 cases hb : s.bad
 ·rfl
 ·exfalso
  obtain ⟨m, rfl⟩ : ∃ m, n = m + 2 := ⟨n - 2, by omega⟩
  have hp : dL (m + 1) d s = (kW, s) := by rw [dL, if_pos hb]
  have h1 : isR s pV = false := by unfold isR; simp [hb]
  rw [bN, hp, h1] at h
  simp [hb] at h
theorem Ea {m : Nat} {s : RS} (hs : s.ok) (h : su m s) : (s.tok.kind = 1 → kD s.tok.text) ∧ s.tok.text.length ≤ m := h _ (List.mem_of_getElem? (uy hs))
theorem Ld {ns : List Bytes} {nm : Bytes} (h : ns.Pairwise (· < ·)) (hn : nm ∉ ns) : (jQ ns (lW ns nm) nm).Pairwise (· < ·) := by
 have h1 : ((ns.map fun n => (n, ())).map (·.1)) = ns := by rw [List.map_map]; exact (List.map_congr_left (g := id) fun x _ => rfl).trans (List.map_id ns)
 have h2 := Ar (l := ns.map fun n => (n, ())) (p := (nm, ())) (by rw [List.pairwise_map]; exact h) (fun q hq => by
  obtain ⟨n, hm, rfl⟩ := List.mem_map.1 hq
  rintro rfl; exact hn hm)
 unfold Jb at h2
 rw [h1] at h2
 have h3 : ((jQ (ns.map fun n => (n, ())) (lW ns nm) (nm, ())).map (·.1)).Pairwise (· < ·) := List.pairwise_map.2 h2
 rw [CQ, h1] at h3
 exact h3
theorem Bh {α : Type} {l : List α} {i : Nat} {x y : α} (h : y ∈ jQ l i x) : y = x ∨ y ∈ l := by
 unfold jQ at h
 simp only [List.mem_append, List.mem_singleton] at h
 rcases h with (h | h) | h
 ·exact .inr (List.mem_of_mem_take h)
 ·exact .inl h
 ·exact .inr (List.mem_of_mem_drop h)
theorem MK {α : Type} (f : α → Nat) (l : List α) (i : Nat) (x : α) : ((jQ l i x).map f).sum = (l.map f).sum + f x := by
 unfold jQ
 have h : (l.map f).sum = ((l.take i).map f).sum + ((l.drop i).map f).sum := by
  conv => lhs; rw [← List.take_append_drop i l]
  rw [List.map_append, List.sum_append_nat]
 rw [h]
 simp only [List.map_append, List.sum_append_nat, List.map_cons, List.map_nil, List.sum_cons, List.sum_nil]
 omega
structure GoodR (m n : Nat) : Prop where
 typ : ∀ d s, s.ok → su m s → 6 * s.rem + 6 ≤ n → ((bG n d s).2.bad = false → GT (bG n d s).1) ∧ wtT (bG n d s).1 ≤ 48 + (80 + m) * ((bG n d s).2.i - s.i)
 alts : ∀ d l s, s.ok → su m s → 6 * s.rem + 1 ≤ n → ((iE n d l s).2.bad = false → (∀ t ∈ l, GT t) → ∀ t ∈ (iE n d l s).1, GT t) ∧ (l ≠ [] → (iE n d l s).1 ≠ []) ∧ wtL (iE n d l s).1 ≤ wtL l + (80 + m) * ((iE n d l s).2.i - s.i)
 arrow : ∀ d s, s.ok → su m s → 6 * s.rem + 5 ≤ n → ((bN n d s).2.bad = false → GT (bN n d s).1) ∧ wtT (bN n d s).1 ≤ 16 + (80 + m) * ((bN n d s).2.i - s.i)
 plain : ∀ d s, s.ok → su m s → 6 * s.rem + 4 ≤ n → ((dL n d s).2.bad = false → GT (dL n d s).1) ∧ wtT (dL n d s).1 ≤ 16 + (80 + m) * ((dL n d s).2.i - s.i)
 fields : ∀ d o s, s.ok → su m s → 6 * s.rem + 8 ≤ n → (∃ ns l, o = .mk 5 [] ns l) → ((bT n d o s).2.bad = false → (∃ ns l, o = .mk 5 [] ns l ∧ ns.Pairwise (· < ·) ∧ ns.length = l.length ∧ (∀ n ∈ ns, kD n) ∧ ∀ t ∈ l, GT t) → GT (bT n d o s).1) ∧ wtT (bT n d o s).1 ≤ wtT o + (80 + m) * ((bT n d o s).2.i - s.i)
theorem xR : wtT kW = 16 := rfl
theorem Ao {c a b : Nat} (h : a ≤ b) : c * a ≤ c * b := Nat.mul_le_mul_left _ h
theorem EU (m : Nat) : ∀ n, GoodR m n := fun n => by
 induction n with
 | zero => exact ⟨fun d s _ _ h => by omega, fun d l s _ _ h => by omega, fun d s _ _ h => by omega, fun d s _ _ h => by omega, fun d o s _ _ h => by omega⟩
 | succ n ih =>
  obtain ⟨l1, l2, l3, l4, l5⟩ := bL n
  refine ⟨fun d s hs hg hf => ?_, fun d l s hs hg hf => ?_, fun d s hs hg hf => ?_, fun d s hs hg hf => ?_, fun d o s hs hg hf ho => ?_⟩
  ·rw [bG]
   have hle : s.le (if 64 < d then bX s 3 else s) := by
    split
    ·exact jM hs 3
    ·exact RS.le.refl hs
   have hi : (if 64 < d then bX s 3 else s).i = s.i := by
    split
    ·unfold bX; split <;> rfl
    ·rfl
   generalize (if 64 < d then bX s 3 else s) = s1 at hle hi ⊢
   have hs1 := hs.of hle
   have hg1 := hg.le hle
   have hr1 : s1.rem = s.rem := by unfold RS.rem; rw [hi, hle.toks]
   split
   ·rename_i hb
    exact ⟨fun h => absurd hb (by rw [h]; simp), by rw [xR]; omega⟩
   ·rename_i hb
    obtain ⟨k1, k2⟩ := ih.arrow d s1 hs1 hg1 (by omega)
    have hla := l3 d s1 hs1
    generalize bN n d s1 = q at k1 k2 hla ⊢
    obtain ⟨a, s2⟩ := q
    dsimp only at k1 k2 hla ⊢
    have hs2 := hs1.of hla
    have hr2 : s2.rem ≤ s1.rem := hla.rem
    split
    ·rename_i hbar
     obtain ⟨j1, j2, j3⟩ := ih.alts d [a] s2 hs2 (hg1.le hla) (by omega)
     have hlb := l2 d [a] s2 hs2
     generalize iE n d [a] s2 = q2 at j1 j2 j3 hlb ⊢
     obtain ⟨al, s3⟩ := q2
     dsimp only at j1 j2 j3 hlb ⊢
     have hb2 : s2.bad = false := by unfold isR at hbar; cases h : s2.bad <;> simp [h] at hbar ⊢
     refine ⟨fun h => .uni al (j2 (by simp)) (j1 h fun t ht => by rw [List.mem_singleton] at ht; subst ht; exact k1 hb2), ?_⟩
     have hia := hla.i
     have hib := hlb.i
     rw [wtT]
     rw [wtL, wtL] at j3
     simp only [List.length_nil, List.map_nil, List.sum_nil]
     have e1 : (80 + m) * (s3.i - s.i) = (80 + m) * (s2.i - s1.i) + (80 + m) * (s3.i - s2.i) := by rw [← Nat.mul_add]; congr 1; omega
     rw [e1]; omega
    ·refine ⟨k1, ?_⟩
     rw [hi] at k2
     dsimp only
     omega
  ·rw [iE]
   split
   ·rename_i hbar
    have zK := eD hs hbar
    have hlt := aK hs lJ
    have hst := hs.of hlt
    have hyes := jy hbar
    obtain ⟨k1, k2⟩ := ih.arrow d (aD s lJ) hst (hg.le hlt) (by omega)
    have hla := l3 d (aD s lJ) hst
    have hib : (aD s lJ).i = s.i + 1 := by rw [hyes]
    have hab := @Pp n d (aD s lJ)
    generalize aD s lJ = s1 at *
    generalize bN n d s1 = q at k1 k2 hla hab ⊢
    obtain ⟨a, s2⟩ := q
    dsimp only at k1 k2 hla hab ⊢
    have hs2 := hst.of hla
    have hr2 : s2.rem ≤ s1.rem := hla.rem
    obtain ⟨j1, j2, j3⟩ := ih.alts d (l ++ [a]) s2 hs2 ((hg.le hlt).le hla) (by omega)
    have hlb := l2 d (l ++ [a]) s2 hs2
    have hbd := @SA n d (l ++ [a]) s2
    generalize iE n d (l ++ [a]) s2 = q2 at j1 j2 j3 hlb hbd ⊢
    obtain ⟨al, s3⟩ := q2
    dsimp only at j1 j2 j3 hlb hbd ⊢
    refine ⟨fun h hl => j1 h fun t ht => ?_, fun _ => j2 (by simp), ?_⟩
    ·rcases List.mem_append.1 ht with ht | ht
     ·exact hl t ht
     ·rw [List.mem_singleton] at ht; subst ht; exact k1 (hbd h)
    ·rw [mQ, wtL, wtL] at j3
     have h1 := hla.i
     have h2 := hlb.i
     have e1 : (80 + m) * (s3.i - s.i) = (80 + m) + ((80 + m) * (s2.i - s1.i) + (80 + m) * (s3.i - s2.i)) := by
      rw [← Nat.mul_add]
      have : s3.i - s.i = 1 + (s2.i - s1.i + (s3.i - s2.i)) := by omega
      rw [this, Nat.mul_add, Nat.mul_one]
     rw [e1]; omega
   ·exact ⟨fun _ h => h, fun h => h, by dsimp only; omega⟩
  ·rw [bN]
   obtain ⟨k1, k2⟩ := ih.plain d s hs hg (by omega)
   have hla := l4 d s hs
   generalize dL n d s = q at k1 k2 hla ⊢
   obtain ⟨a, s1⟩ := q
   dsimp only at k1 k2 hla ⊢
   have hs1 := hs.of hla
   have hr1 : s1.rem ≤ s.rem := hla.rem
   split
   ·rename_i harr
    have hb1 : s1.bad = false := by unfold isR at harr; cases h : s1.bad <;> simp [h] at harr ⊢
    have hlt := aK hs1 pV
    have hst := hs1.of hlt
    have zK := eD hs1 harr
    have hyes := jy harr
    have hib : (aD s1 pV).i = s1.i + 1 := by rw [hyes]
    split
    ·have hgl := jM hst 3
     refine ⟨fun h => ?_, ?_⟩
     ·exfalso
      have : (aD s1 pV).bad = false := by rw [hyes]; exact hb1
      unfold bX at h
      rw [if_neg (by rw [this]; simp)] at h
      cases h
     ·have h1 := hgl.i
      have h2 := hla.i
      have := Ao (c := 80 + m) (show s1.i - s.i ≤ (bX (aD s1 pV) 3).i - s.i by omega)
      dsimp only
      omega
    ·obtain ⟨j1, j2⟩ := ih.arrow (d + 1) (aD s1 pV) hst ((hg.le hla).le hlt) (by omega)
     have hlb := l3 (d + 1) (aD s1 pV) hst
     generalize aD s1 pV = s2 at *
     generalize bN n (d + 1) s2 = q2 at j1 j2 hlb ⊢
     obtain ⟨b, s3⟩ := q2
     dsimp only at j1 j2 hlb ⊢
     refine ⟨fun h => .fn a b (k1 hb1) (j1 h), ?_⟩
     have h1 := hla.i
     have h2 := hlb.i
     rw [wtT, wtL, wtL, wtL]
     simp only [List.length_nil, List.map_nil, List.sum_nil]
     have e1 : (80 + m) * (s3.i - s.i) = (80 + m) + ((80 + m) * (s1.i - s.i) + (80 + m) * (s3.i - s2.i)) := by
      rw [← Nat.mul_add]
      have : s3.i - s.i = 1 + (s1.i - s.i + (s3.i - s2.i)) := by omega
      rw [this, Nat.mul_add, Nat.mul_one]
     rw [e1]; omega
   ·exact ⟨k1, k2⟩
  ·rw [dL]
   have htk := Ea hs hg
   have hone : ∀ (w : Bytes) (t : TA), isR s w = true → GT t → wtT t = 16 → ((t, aD s w).2.bad = false → GT (t, aD s w).1) ∧ wtT (t, aD s w).1 ≤ 16 + (80 + m) * ((t, aD s w).2.i - s.i) := fun w t _ hg hw => ⟨fun _ => hg, by dsimp only; omega⟩
   split
   ·rename_i hb
    exact ⟨fun h => absurd hb (by rw [h]; simp), by rw [xR]; omega⟩
   split
   ·rename_i hk
    refine ⟨fun _ => .ref _ (htk.1 hk), ?_⟩
    rw [wtT]
    simp only [List.map_nil, List.sum_nil, wtL, Nat.add_sub_cancel_left, Nat.mul_one]
    have := htk.2
    omega
   split
   ·rename_i h; exact hone _ _ h .int rfl
   split
   ·rename_i h; exact hone _ _ h .bool rfl
   split
   ·rename_i h; exact hone _ _ h .text rfl
   split
   ·rename_i h; exact hone _ _ h .dyn rfl
   split
   ·rename_i h
    have hlt := aK hs kLb
    have zK := eD hs h
    have hst := hs.of hlt
    obtain ⟨j1, j2⟩ := ih.fields d (.mk 5 [] [] []) (aD s kLb) hst (hg.le hlt) (by omega) ⟨_, _, rfl⟩
    have hlb := l5 d (.mk 5 [] [] []) (aD s kLb) hst
    refine ⟨fun hb => j1 hb ⟨[], [], rfl, by simp, rfl, fun n hn => (by cases hn), fun t ht => (by cases ht)⟩, ?_⟩
    have h0 : wtT (.mk 5 [] [] []) = 16 := rfl
    have h1 := hlt.i
    have := Ao (c := 80 + m) (show (bT n d (.mk 5 [] [] []) (aD s kLb)).2.i - (aD s kLb).i ≤ (bT n d (.mk 5 [] [] []) (aD s kLb)).2.i - s.i by omega)
    omega
   split
   ·rename_i hb
    exact ⟨fun h => absurd hb (by rw [h]; simp), by rw [xR]; omega⟩
   ·rename_i hb
    have hb : (aD s kLp).bad = false := by simpa using hb
    obtain ⟨hb0, his, hyes⟩ := iI hb
    have hlt := aK hs kLp
    have zK := eD hs his
    have hst := hs.of hlt
    have hib : (aD s kLp).i = s.i + 1 := by rw [hyes]
    obtain ⟨j1, j2⟩ := ih.typ (d + 1) (aD s kLp) hst (hg.le hlt) (by omega)
    have hlb := l1 (d + 1) (aD s kLp) hst
    have hlc := aK (hst.of hlb) kRp
    refine ⟨fun h => j1 (iI h).1, ?_⟩
    have h1 := hlb.i
    have h2 := hlc.i
    generalize aD s kLp = s1 at *
    generalize bG n (d + 1) s1 = q at *
    dsimp only
    have e1 := Ao (c := 80 + m) (show (q.2.i - s1.i) + 1 ≤ (aD q.2 kRp).i - s.i by omega)
    rw [Nat.mul_add, Nat.mul_one] at e1
    omega
  ·obtain ⟨ns, l, rfl⟩ := ho
   rw [bT]
   split
   ·rename_i hcond
    split
    ·rename_i hb
     exact ⟨fun h => absurd hb (by rw [h]; simp), by rw [xR]; have := BD (.mk 5 [] ns l); omega⟩
    ·rename_i hb
     have hb : (aD (aJ s).2 aN).bad = false := by simpa using hb
     have hln := bK hs
     have hlt := hln.trans (aK (hs.of hln) aN)
     have hst := hs.of hlt
     have zK := sH hs aN hb
     obtain ⟨h3, h4, h5⟩ := iI hb
     obtain ⟨h6, h7, h8⟩ := nU h3
     have hnm : kD (aJ s).1.text ∧ (aJ s).1.text.length ≤ m := by rw [h8]; exact ⟨(Ea hs hg).1 h7, (Ea hs hg).2⟩
     have hi2 : (aD (aJ s).2 aN).i = s.i + 2 := by rw [h5, h8]
     split
     ·have k1 := jU hs aN hb
      have hg1 := hg.le k1
      have hs1 := hs.of k1
      have hrr : (fM (aD (aJ s).2 aN) (aJ s).1).rem = (aD (aJ s).2 aN).rem := rfl
      have hii : (fM (aD (aJ s).2 aN) (aJ s).1).i = (aD (aJ s).2 aN).i := rfl
      have k2 := l1 (d + 1) _ hs1
      have k3 := fK (hs1.of k2)
      have r2 := k2.rem
      have r3 := k3.rem
      obtain ⟨j1, j2⟩ := ih.fields d (.mk 5 [] ns l) _ ((hs1.of k2).of k3) ((hg1.le k2).le k3) (by omega) ⟨_, _, rfl⟩
      refine ⟨j1, ?_⟩
      have k4 := l5 d (.mk 5 [] ns l) _ ((hs1.of k2).of k3)
      have e0 := k2.i
      have e1 := k3.i
      have e2 := k4.i
      have := Ao (c := 80 + m) (show (bT n d (.mk 5 [] ns l) (eU (bG n (d + 1) (fM (aD (aJ s).2 aN) (aJ s).1)).2)).2.i - (eU (bG n (d + 1) (fM (aD (aJ s).2 aN) (aJ s).1)).2).i ≤ (bT n d (.mk 5 [] ns l) (eU (bG n (d + 1) (fM (aD (aJ s).2 aN) (aJ s).1)).2)).2.i - s.i by omega)
      omega
     ·rename_i hnot
      have hnot : (aJ s).1.text ∉ ns := Jh (by simpa [TA.names] using hnot)
      have hg1 := hg.le hlt
      have k2 := l1 (d + 1) _ hst
      have k3 := fK (hst.of k2)
      have r2 := k2.rem
      have r3 := k3.rem
      obtain ⟨t1, t2⟩ := ih.typ (d + 1) _ hst hg1 (by omega)
      simp only [TA.names, TA.l]
      generalize aD (aJ s).2 aN = s1 at *
      generalize (aJ s).1.text = nm at *
      generalize bG n (d + 1) s1 = q at *
      obtain ⟨t, s2⟩ := q
      dsimp only at *
      have hc0 := @O9 s2
      generalize eU s2 = s3 at *
      obtain ⟨j1, j2⟩ := ih.fields d (.mk 5 [] (jQ ns (lW ns nm) nm) (jQ l (lW ns nm) t)) s3 ((hst.of k2).of k3) ((hg1.le k2).le k3) (by omega) ⟨_, _, rfl⟩
      have k4 := l5 d (.mk 5 [] (jQ ns (lW ns nm) nm) (jQ l (lW ns nm) t)) s3 ((hst.of k2).of k3)
      have hfb := @Lv n d (.mk 5 [] (jQ ns (lW ns nm) nm) (jQ l (lW ns nm) t)) s3
      generalize bT n d (.mk 5 [] (jQ ns (lW ns nm) nm) (jQ l (lW ns nm) t)) s3 = q2 at *
      refine ⟨fun h ⟨ns', l', e, p1, p2, p3, p4⟩ => ?_, ?_⟩
      ·cases e
       refine j1 h ⟨_, _, rfl, Ld p1 hnot, ?_, fun n hn => ?_, fun x hx => ?_⟩
       ·rw [yJ, yJ, p2]
       ·rcases Bh hn with rfl | hn
        ·exact hnm.1
        ·exact p3 n hn
       ·rcases Bh hx with rfl | hx
        ·exact t1 (hc0 (hfb h))
        ·exact p4 x hx
      ·rw [wtT, sG, MK, MK, ← sG] at j2
       rw [wtT]
       have e0 := k2.i
       have e1 := k3.i
       have e2 := k4.i
       have hm := hnm.2
       have e3 : (80 + m) * (q2.2.i - s.i) ≥ (80 + m) * 2 + ((80 + m) * (s2.i - s1.i) + (80 + m) * (q2.2.i - s3.i)) := by
        rw [← Nat.mul_add, ← Nat.mul_add]
        exact Ao (by omega)
       omega
   ·refine ⟨fun h ⟨ns', l', e, p1, p2, p3, p4⟩ => ?_, by dsimp only; omega⟩
    cases e
    exact .rcd ns l p1 p2 p3 p4
end Go.Ag
/- Types of a source: good, and not much. -/
namespace Go.Ag
open Go
theorem P6 {p : UInt8 → Bool} {src : Bytes} {k : Nat} : ∀ c ∈ jV src k (iA p src k), p c = true := by
 intro c hc
 unfold jV iA at hc
 have h1 : ((src.take (k + ((src.drop k).takeWhile p).length)).drop k) = (src.drop k).takeWhile p := by
  rw [List.drop_take, Nat.add_sub_cancel_left]
  generalize src.drop k = l
  have h2 : l = l.takeWhile p ++ l.dropWhile p := List.takeWhile_append_dropWhile.symm
  conv => lhs; arg 2; rw [h2]
  rw [List.take_left]
 rw [h1] at hc
 exact K4 hc
theorem Gq {src : Bytes} {k : Nat} {c : UInt8} (h : src[k]? = some c) : ∀ t ∈ (bf src k c).2.1, t.kind = 1 → kD t.text := by
 have hne := wO h
 have no : ∀ {n : Int} {a : Int} {x : Bytes}, n ≠ 1 → ∀ t ∈ [(⟨n, a, x⟩ : cO)], t.kind = 1 → kD t.text := fun hn t ht hk => by
  simp only [List.mem_singleton] at ht; subst ht; exact absurd hk hn
 have nil : ∀ t ∈ ([] : List cO), t.kind = 1 → kD t.text := fun t ht => by cases ht
 unfold bf at hne ⊢
 split at hne
 ·rename_i h1; rw [if_pos h1]; exact nil
 rename_i h1
 rw [if_neg h1]
 split at hne
 ·rename_i h2; rw [if_pos h2]; exact nil
 rename_i h2
 rw [if_neg h2]
 split at hne
 ·rename_i h3
  rw [if_pos h3]
  intro t ht hk
  have hne := hne t ht hk
  simp only [List.mem_singleton] at ht; subst ht
  dsimp only at hk hne ⊢
  have hw : qA (jV src k (bS src k bU)) = false := by
   cases hw : qA (jV src k (bS src k bU))
   ·rfl
   ·rw [hw, if_pos rfl] at hk; cases hk
  have hn : ∀ w ∈ eP, jV src k (bS src k bU) ≠ w := fun w hm e => by
   unfold qA at hw
   rw [List.any_eq_false] at hw
   exact hw w hm (by rw [e]; simp)
  exact ⟨hne, P6 (p := (inA · bU)), hn Gt (by decide), hn yI (by decide), hn yH (by decide)⟩
 rename_i h3
 rw [if_neg h3]
 clear hne
 split
 ·split
  ·exact no (by decide)
  ·exact no (by decide)
 split
 ·split
  ·exact no (by decide)
  ·exact nil
 split
 ·exact no (by decide)
 split
 ·exact no (by decide)
 ·exact nil
theorem Cw (src : Bytes) : ∀ (n k : Nat) (l : List cO) (d : List bP), (∀ t ∈ l, t.kind = 1 → kD t.text) → ∀ t ∈ (iC src n k l d).1, t.kind = 1 → kD t.text
 | 0, k, l, d, h => h
 | n + 1, k, l, d, h => by
  rw [iC]
  split
  ·rename_i c hc
   refine Cw src n _ _ _ fun t ht => ?_
   rcases List.mem_append.1 ht with ht | ht
   ·exact h t ht
   ·exact Gq hc t ht
  ·exact h
theorem wX (src : Bytes) : su (src.length + 2) (bE src) := by
 intro t ht
 have h1 : ∀ t ∈ (iC src src.length 0 [] []).1, t.kind = 1 → kD t.text := Cw src src.length 0 [] [] fun t ht => by cases ht
 have h2 := (uR src src.length 0 [] [] 0 (by simp) (by simp) (fun t ht => by cases ht)).2.2
 have ht : t ∈ (iC src src.length 0 [] []).1 ++ [⟨6, src.length, []⟩] := ht
 rcases List.mem_append.1 ht with ht | ht
 ·exact ⟨h1 t ht, h2 t ht⟩
 ·simp only [List.mem_singleton] at ht
  subst ht
  exact ⟨fun h => absurd (show (6 : Int) = 1 from h) (by decide), by simp⟩
theorem wV (src : Bytes) (hs : src.length ≤ 2 ^ 31) (h : (oI src).2 = true) : GT (oI src).1 ∧ wtT (oI src).1 ≤ 48 + (src.length + 82) * (src.length + 1) := by
 obtain ⟨hok, hlen, _⟩ := mh src (by omega)
 have hg := (EU (src.length + 2) (pG src)).typ 1 (bE src) hok (wX src) (by unfold pG; omega)
 have hle := (bL (pG src)).1 1 (bE src) hok
 unfold oI at h ⊢
 unfold D7 at h ⊢
 generalize bG (pG src) 1 (bE src) = q at hg hle h ⊢
 cases hj : uU q.2
 ·rw [hj, if_neg (by simp)] at h
  cases h
 ·rw [if_pos rfl]
  have hb : q.2.bad = false := by
   unfold uU at hj
   cases hb : q.2.bad
   ·rfl
   ·rw [hb] at hj; cases hj
  refine ⟨hg.1 hb, Nat.le_trans hg.2 ?_⟩
  have h1 := hle.lt
  have h2 := Ao (c := src.length + 82) (show q.2.i - (bE src).i ≤ src.length + 1 by omega)
  have h3 : 80 + (src.length + 2) = src.length + 82 := by omega
  rw [h3]
  omega
end Go.Ag
/- Abstract codes, printed by a program of ours (acode.py) out of the given program's form. -/
namespace Go.Ag
open Go
end Go.Ag
/- Package cupellaw09: typ, alive, list. -/
namespace Go.Ag
open Go
variable {T : Tab} {L : Lnk}
end Go.Ag
/- Package cupellaw09: alive. -/
namespace Go.Ag
open Go
variable {T : Tab} {L : Lnk}
theorem aC.DY {f : Nat} {args args' : List au} {H : Heap} {Q : fq → Heap → Prop} (h : aC L f args' H Q) (hw : og L args args') : aC L f args H Q := fun g w vs hs hr => h g w vs hs (hr.weak hw)
structure Nz (e : fV) (H : Heap) (a : Nat) : Prop where
 h0 : H[a]? = some (.map (dD e.by_ 0) e.by_.length)
 h1 : H[a + 1]? = some (.map (iO e.empty 0) e.empty.length)
 h2 : H[a + 2]? = some (.cells [.map a, .map (a + 1)] 234)
theorem EK.any {f : Nat} {args : List au} {e : fV} {y : au} (h : EK L f args e y) (ha : ∀ x ∈ args, Low 0 x) (hy : Low 0 y) {H : Heap} {a : Nat} (hA : Nz e H a) {K KP : au → Heap → Prop} (hk : K y H) : aC L f (.ptr (a + 2) 0 :: args) H (d9 K KP) := by
 have hp : Part H [a, a + 1, a + 2] (mJ e) := by
  refine ⟨by simp, rfl, fun k i o hk ho => ?_⟩
  match k, hk, ho with
  | 0, hk, ho => cases hk; cases ho; rw [gD (show bI 0 (.map (dD e.by_ 0) e.by_.length) from gI 0 _ _)]; exact hA.h0
  | 1, hk, ho => cases hk; cases ho; rw [gD (show bI 0 (.map (iO e.empty 0) e.empty.length) from iH 0 _ _)]; exact hA.h1
  | 2, hk, ho => cases hk; cases ho; exact hA.h2
  | k + 3, hk, ho => cases hk
 have hf := aC.Wz (y' := y) (args' := .ptr (a + 2) 0 :: args) h (fun o ho => by
  simp only [mJ, List.mem_cons, List.not_mem_nil, or_false] at ho
  rcases ho with rfl | rfl | rfl <;> rfl) [a, a + 1, a + 2] hp (by
  rw [List.map_cons]
  have : args.map (ren (nameOf [a, a + 1, a + 2] H.length)) = args := (List.map_congr_left (g := id) fun x hx => mD (ha x hx)).trans (List.map_id _)
  rw [this]; rfl) (mD hy)
 exact hf.to1 hk
theorem WV (F : Bt T) (l : List (Bytes × TA)) (hl : l.length ≤ 2 ^ 30) (hok : ∀ p ∈ l, okN p.2) (hE : ∀ p ∈ iL l, wtT p.2 ≤ 2 ^ 40) (tk : Tok) (H : Heap) :
  aC T.L 144 [.lst (gJ l) tk] H fun r H' => ∃ e, lU (iL l) e ∧ r = .ret (.ptr (H.length + 2) 0) ∧ H' = H ++ [.map (dD e.by_ 0) e.by_.length, .map (iO e.empty 0) e.empty.length, .cells [.map H.length, .map (H.length + 1)] 234] := by
 have h := SN F l hl hok hE (fun p hp => LG _ _ _)
 have hp : Part H [] [] := ⟨by simp, rfl, fun k i o hk => by cases hk⟩
 have hf := aC.nk h [] hp (.inr fun r H' _ => Nat.zero_le _)
 have hargs : [au.lst (gJ l) .none].map (ren (nameOf [] H.length)) = [.lst (gJ l) .none] := by
  rw [List.map_cons, List.map_nil, mD (show Low 0 (au.lst (gJ l) .none) from .lst _ _ trivial (rU 0 l))]
 rw [hargs] at hf
 refine (hf.mono fun r H' ⟨r1, H1, ⟨e, h1, h2, h3⟩, _, h4, h5⟩ => ⟨e, h1, ?_, ?_⟩).DY ⟨Weak.tok _ _, trivial⟩
 ·rw [h4, h2]
  simp only [zo, ren]
  rw [jq (Nat.zero_le _)]; rfl
 ·rw [h5, h3]
  simp only [List.length_nil, List.take_zero, List.map_nil, List.drop_zero, lV]
  congr 1
  simp only [mJ, List.map_cons, List.map_nil]
  rw [gD (show bI 0 (.map (dD e.by_ 0) e.by_.length) from gI 0 _ _), gD (show bI 0 (.map (iO e.empty 0) e.empty.length) from iH 0 _ _)]
  simp only [jk, iq, ren]
  rw [jq (Nat.zero_le _), jq (Nat.zero_le _)]
  rfl
theorem Lm {a b : TA} (ha : GT a) (hb : GT b) : ∀ t ∈ [a, b], GT t := fun t ht => by
 simp only [List.mem_cons, List.not_mem_nil, or_false] at ht
 rcases ht with rfl | rfl
 ·exact ha
 ·exact hb
theorem gc_of {bs : List TA} {t : TA} (h : GT t) (hw : wtT t ≤ 2 ^ 30) (hm : aM t ∈ bs) : GC' (bs.flatMap iJ) t := ⟨h, hw, List.mem_flatMap.2 ⟨_, hm, rA _⟩⟩
theorem nId4 : aM (.mk 4 [] [] []) = .mk 4 [] [] [] := pU .dyn
end Go.Ag
/- Expressions that are read are small. -/
namespace Go.Ag
open Go
mutual
def EA.small : EA → Prop
 | .mk _ _ _ _ _ l _ => l.length ≤ 2 ^ 34 ∧ EA.smalls l
def EA.smalls : List EA → Prop
 | [] => True
 | x :: l => x.small ∧ EA.smalls l
end
theorem Kw {a : List EA} {x : EA} (h : EA.smalls a) (hx : x.small) : EA.smalls (a ++ [x]) := by
 induction a with
 | nil => exact ⟨hx, trivial⟩
 | cons y a ih => exact ⟨h.1, ih h.2⟩
theorem fA : zeroE.small := ⟨by simp, trivial⟩
theorem BR (k p : Int) (nm : Bytes) (m : Int) (ns : List Bytes) (ts : List TA) : (EA.mk k p nm m ns [] ts).small := ⟨by simp, trivial⟩
theorem Ky {k p : Int} {nm : Bytes} {m : Int} {ns : List Bytes} {ts : List TA} {a : EA} (h : a.small) : (EA.mk k p nm m ns [a] ts).small := ⟨by simp, h, trivial⟩
theorem P7 {k p : Int} {nm : Bytes} {m : Int} {ns : List Bytes} {ts : List TA} {a b : EA} (h : a.small) (h' : b.small) : (EA.mk k p nm m ns [a, b] ts).small := ⟨by simp, h, h', trivial⟩
theorem VT {k p : Int} {nm : Bytes} {m : Int} {ns : List Bytes} {ts : List TA} {a b c : EA} (h : a.small) (h' : b.small) (h'' : c.small) : (EA.mk k p nm m ns [a, b, c] ts).small := ⟨by simp, h, h', h'', trivial⟩
structure SmEx (n : Nat) : Prop where
 expr : ∀ (d : Nat) (s : RS), s.ok → (bY n d s).1.small
 fn : ∀ (d : Nat) (a : Int) (p : cO × RS), p.2.ok → (AZ n d a p).1.small
 lt : ∀ (d : Nat) (a : Int) (p : cO × RS), p.2.ok → (AV n d a p).1.small
 ie : ∀ (d : Nat) (a : Int) (s : RS), s.ok → (ifR n d a s).1.small
 el : ∀ (d : Nat) (a : Int) (x : EA) (q : EA × RS), q.2.ok → x.small → q.1.small → (tZ n d a x q).1.small
 post : ∀ (d : Nat) (x : EA) (s : RS), s.ok → x.small → (lM n d x s).1.small
 basic : ∀ (d : Nat) (s : RS), s.ok → (eY n d s).1.small
 as_ : ∀ (d : Nat) (a : Int) (q : EA × RS), q.2.ok → q.1.small → (asR n d a q).1.small
 fields : ∀ (d : Nat) (a : Int) (names : List Bytes) (l : List EA) (s : RS), s.ok → EA.smalls l → l.length + s.rem ≤ 2 ^ 34 → (eX n d a names l s).1.small
theorem P8 : ∀ n : Nat, SmEx n := by
 intro n
 induction n with
 | zero => exact ⟨fun d s h => by unfold bY; exact fA, fun d a p h => by unfold AZ; exact fA, fun d a p h => by unfold AV; exact fA, fun d a s h => by unfold ifR; exact fA, fun d a x q h _ _ => by unfold tZ; exact fA, fun d x s h hx => by unfold lM; exact hx, fun d s h => by unfold eY; exact fA, fun d a q h _ => by unfold asR; exact fA, fun d a ns l s h _ _ => by unfold eX; exact fA⟩
 | succ n ih =>
  have le := fH n
  have ty := fun (d : Nat) (s : RS) (h : s.ok) => h.of ((bL n).1 d s h)
  have tk := fun (s : RS) (h : s.ok) (w : Bytes) => h.of (aK h w)
  have nm := fun (s : RS) (h : s.ok) => h.of (bK h)
  have ex := fun (d : Nat) (s : RS) (h : s.ok) => h.of (le.expr d s h)
  refine ⟨fun d s h => ?_, fun d a p h => ?_, fun d a p h => ?_, fun d a s h => ?_, fun d a x q h hx hq => ?_, fun d x s h hx => ?_, fun d s h => ?_, fun d a q h hq => ?_, fun d a ns l s h hl hll => ?_⟩
  ·have ho := h.of (MX (d := d) h)
   unfold bY
   generalize jN d s = s1 at ho ⊢
   split
   ·exact fA
   ·split
    ·exact ih.fn _ _ _ (nm _ (tk _ (tk _ ho _) _))
    ·split
     ·exact ih.lt _ _ _ (nm _ (tk _ ho _))
     ·split
      ·exact ih.ie _ _ _ (tk _ ho _)
      ·exact ih.post _ _ _ (ho.of (le.basic d s1 ho)) (ih.basic d s1 ho)
  ·unfold AZ
   split
   ·exact fA
   ·split
    ·exact fA
    ·exact Ky (ih.expr _ _ (tk _ (ty _ _ (tk _ h _)) _))
  ·unfold AV
   exact P7 (ih.expr _ _ (tk _ h _)) (ih.expr _ _ (tk _ (ex _ _ (tk _ h _)) _))
  ·unfold ifR
   exact ih.el _ _ _ _ (ex _ _ (tk _ (ex _ _ h) _)) (ih.expr _ _ h) (ih.expr _ _ (tk _ (ex _ _ h) _))
  ·unfold tZ
   exact VT hx hq (ih.expr _ _ (tk _ h _))
  ·unfold lM
   split
   ·exact ih.post _ _ _ (tk _ (ex _ _ (tk _ h _)) _) (P7 hx (ih.expr _ _ (tk _ h _)))
   ·split
    ·exact ih.post _ _ _ (nm _ (tk _ h _)) (Ky hx)
    ·exact hx
  ·unfold eY
   split
   ·exact fA
   ·split
    ·exact BR _ _ _ _ _ _
    ·split
     ·exact BR _ _ _ _ _ _
     ·split
      ·exact BR _ _ _ _ _ _
      ·split
       ·exact BR _ _ _ _ _ _
       ·split
        ·exact BR _ _ _ _ _ _
        ·split
         ·refine ih.fields _ _ _ _ _ (tk _ h _) trivial ?_
          have h1 := (aK h kLb).rem
          have h2 := h.len
          unfold RS.rem at *
          simp
          omega
         ·split
          ·exact fA
          ·exact ih.as_ _ _ _ (ex _ _ (tk _ h _)) (ih.expr _ _ (tk _ h _))
  ·rw [asR]
   split
   ·exact Ky hq
   ·exact hq
  ·unfold eX
   split
   ·split
    ·exact fA
    ·rename_i hb
     have hb : (aD (aJ s).2 kEq).bad = false := by simpa using hb
     have hr := sH h kEq hb
     have ok2 := tk _ (nm _ h) kEq
     split
     ·have k1 := h.of (jU h kEq hb)
      have k2 := ex (d + 1) _ k1
      refine ih.fields _ _ _ _ _ (k2.of (fK k2)) hl ?_
      have e1 := (fK k2).rem
      have e2 := (le.expr (d + 1) _ k1).rem
      have e3 : (fM (aD (aJ s).2 kEq) (aJ s).1).rem = (aD (aJ s).2 kEq).rem := rfl
      omega
     ·have k2 := ex (d + 1) _ ok2
      refine ih.fields _ _ _ _ _ (k2.of (fK k2)) (Kw hl (ih.expr _ _ ok2)) ?_
      have e1 := (fK k2).rem
      have e2 := (le.expr (d + 1) _ ok2).rem
      simp
      omega
   ·exact ⟨by omega, hl⟩
def dS.small (d : dS) : Prop := d.es.length ≤ 1 ∧ EA.smalls d.es
theorem LC {n : Nat} {s : RS} (hs : s.ok) : (fC n s).1.small := by
 have ty := fun (d : Nat) (s : RS) (h : s.ok) => h.of ((bL n).1 d s h)
 have tk := fun (s : RS) (h : s.ok) (w : Bytes) => h.of (aK h w)
 have nm := fun (s : RS) (h : s.ok) => h.of (bK h)
 have hE : ∀ (t : cO) (ts : List TA) (s : RS), s.ok → (uf n t ts s).1.small := fun t ts s hs => ⟨by simp [uf], (P8 n).expr _ _ (tk _ hs _), trivial⟩
 unfold fC
 split
 ·exact ⟨by simp [JL], trivial⟩
 ·split
  ·exact ⟨by simp [declT], trivial⟩
  ·split
   ·unfold AB
    split
    ·exact hE _ _ _ (ty _ _ (tk _ (nm _ (tk _ hs _)) _))
    ·exact hE _ _ _ (nm _ (tk _ hs _))
   ·exact ⟨by simp, trivial⟩
theorem nG (n : Nat) : ∀ (k : Nat) (l : List dS) (s : RS), s.okN k → s.bad = false → s.rem ≤ k → (∀ d ∈ l, d.small) → (∀ d ∈ (jl n k l s).1, d.small) ∧ (jl n k l s).1.length ≤ l.length + k
 | 0, l, s, h, hb, hr, hl => ⟨hl, by simp [jl]⟩
 | k + 1, l, s, h, hb, hr, hl => by
  rw [jl]
  split
  ·rename_i hk
   have hrr := vF (n := n) h hb (by simpa using hk)
   split
   ·rename_i hb2
    obtain ⟨k1, k2, k3⟩ := hrr.2 hb2
    have := nG n k l _ k1 k3 (by omega) hl
    exact ⟨this.1, by omega⟩
   ·rename_i hb2
    obtain ⟨k1, k2⟩ := hrr.1 (by simpa using hb2)
    have := nG n k (l ++ [(fC n s).1]) _ k1 (by simpa using hb2) (by omega) (fun d hd => by
     rcases List.mem_append.1 hd with hd | hd
     ·exact hl d hd
     ·simp only [List.mem_singleton] at hd; subst hd; exact LC h.ok)
    exact ⟨this.1, by have := this.2; simp at this; omega⟩
  ·exact ⟨hl, by simp⟩
theorem Iw (src : Bytes) (hs : src.length ≤ 2 ^ 32) : (∀ d ∈ (fQ src).1, d.small) ∧ (fQ src).1.length ≤ 2 ^ 33 := by
 obtain ⟨hok, hlen, hdl⟩ := mh src hs
 have zK : (bE src).rem ≤ src.length + 1 := by unfold RS.rem; omega
 have hp : (bE src).pot ≤ (bE src).diags.length + 2 * (bE src).toks.length + 1 := by
  unfold RS.pot
  split <;> omega
 have := nG (nY src) (bE src).rem [] (bE src) ⟨hok.lt, hok.more, hok.len, hok.txt, by omega, hok.named, hok.num⟩ rfl (Nat.le_refl _) (fun d hd => by cases hd)
 exact ⟨this.1, by have := this.2; simp at this; unfold fQ; omega⟩
end Go.Ag

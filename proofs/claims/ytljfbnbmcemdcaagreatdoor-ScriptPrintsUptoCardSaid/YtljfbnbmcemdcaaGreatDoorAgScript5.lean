/- Package script: Print and Parse. -/
import Derived.Test.YtljfbnbmcemdcaaGreatDoorAgScript4
set_option linter.unusedVariables false
namespace Go.Ag
open Go

variable {T : Tab} {L : Lnk}

def cutA (c : UInt8) : List UInt8 → List UInt8 × List UInt8 × Bool
  | [] => ([], [], false)
  | x :: s => if x = c then ([], s, true) else (x :: (cutA c s).1, (cutA c s).2.1, (cutA c s).2.2)
def splitA (c : UInt8) : List UInt8 → List (List UInt8)
  | [] => [[]]
  | x :: s => if x = c then [] :: splitA c s else match splitA c s with
    | [] => [[x]]
    | w :: r => (x :: w) :: r
def joinA (c : UInt8) : List (List UInt8) → List UInt8
  | [] => []
  | [w] => w
  | w :: u :: r => w ++ c :: joinA c (u :: r)

structure ScriptLib5 (L : Lnk) extends ScriptLib4 L where
  cut : ∀ s : List UInt8, s.length ≤ 2 ^ 31 → Pure L 22 [.str s, .str [10]] (.tup [.str (cutA 10 s).1, .str (cutA 10 s).2.1, .bool (cutA 10 s).2.2])
  split : ∀ s : List UInt8, s.length ≤ 2 ^ 31 → Pure L 23 [.str s, .str [32]] (.lst (strs (splitA 32 s)) .none)
  join : ∀ ws : List (List UInt8), (joinA 32 ws).length ≤ 2 ^ 40 → ws.length ≤ 2 ^ 40 → Pure L 20 [.lst (strs ws) .none, .str [32]] (.str (joinA 32 ws))
  atoi_range : ∀ s, -9223372036854775808 ≤ (atoiA s).1 ∧ (atoiA s).1 ≤ 9223372036854775807

theorem cutA_len (c : UInt8) (s : List UInt8) : (cutA c s).1.length ≤ s.length ∧ (cutA c s).2.1.length ≤ s.length ∧ (s ≠ [] → (cutA c s).2.1.length < s.length) := by
  induction s with
  | nil => simp [cutA]
  | cons x s ih =>
    unfold cutA
    split
    · simp
    · simp only [List.length_cons]; omega
theorem splitA_cons (c : UInt8) (s : List UInt8) : ∃ w r, splitA c s = w :: r ∧ w.length ≤ s.length ∧ ∀ u ∈ r, u.length ≤ s.length := by
  induction s with
  | nil => exact ⟨[], [], rfl, by simp, by simp⟩
  | cons x s ih =>
    obtain ⟨w, r, h1, h2, h3⟩ := ih
    unfold splitA
    split
    · rw [h1]; exact ⟨[], w :: r, rfl, by simp, fun u hu => by
        rcases List.mem_cons.1 hu with rfl | hu
        · simp; omega
        · have := h3 u hu; simp; omega⟩
    · rw [h1]; exact ⟨x :: w, r, rfl, by simp; omega, fun u hu => by have := h3 u hu; simp; omega⟩

/-- A line of a step. -/
def lineA (Y : ScriptLib5 L) (x : StepA) : List UInt8 := joinA 32 (wordsA Y.itoaA x) ++ [10]

def goodA (Y : ScriptLib5 L) (s : List UInt8) : Option (StepA × List UInt8) :=
  let c := cutA 10 s
  let x := stepA Y.idxD Y.atoiA (splitA 32 c.1)
  if c.2.2 = true ∧ x.2 = true ∧ checkA Y.toScriptLib4 x.1 = 0 ∧ joinA 32 (wordsA Y.itoaA x.1) = c.1 then some (x.1, c.2.1) else none

def parseF (Y : ScriptLib5 L) : Nat → List UInt8 → List StepA ⊕ Nat
  | 0, _ => .inl []
  | k + 1, s => if s = [] then .inl [] else match goodA Y s with
    | none => .inr 1
    | some (x, rest) => match parseF Y k rest with
      | .inl l => .inl (x :: l)
      | .inr n => .inr (n + 1)

def parseV (l : List StepA) : List StepA ⊕ Nat → AVal
  | .inl l' => .tup [.lst ((l ++ l').map StepA.av) .none, .int .i64 0, .int .i64 0]
  | .inr n => .tup [.lst [] .none, .int .i64 ((l.length + n : Nat) : Int), .int .i64 7]

theorem low_avs (n : Nat) (l : List StepA) : Low n (.lst (l.map StepA.av) .none) := .lst _ _ trivial fun x hx => by
  obtain ⟨y, _, rfl⟩ := List.mem_map.1 hx
  exact low_av n y
theorem low_parseV (n : Nat) (l : List StepA) (r : List StepA ⊕ Nat) : Low n (parseV l r) := by
  cases r with
  | inl l' =>
    refine .tup _ fun x hx => ?_
    simp only [List.mem_cons, List.not_mem_nil, or_false] at hx
    rcases hx with rfl | rfl | rfl
    · exact low_avs n _
    · exact .int _ _
    · exact .int _ _
  | inr m =>
    refine .tup _ fun x hx => ?_
    simp only [List.mem_cons, List.not_mem_nil, or_false] at hx
    rcases hx with rfl | rfl | rfl
    · exact .lst _ _ trivial fun x hx => by cases hx
    · exact .int _ _
    · exact .int _ _
theorem sized_avs (l : List StepA) : Sized 4 (l.map StepA.av) := fun x hx => by
  obtain ⟨y, _, rfl⟩ := List.mem_map.1 hx
  exact ⟨rfl, rfl⟩

theorem bareGo_len (I : UInt8 → Int) : ∀ (n : Nat) (s t : List UInt8), s.length ≤ n → bareGo I s = some t → t.length ≤ s.length
  | 0, s, t, hn, h => by
    have : s = [] := List.eq_nil_of_length_eq_zero (by omega)
    subst this
    simp [bareGo] at h; subst h; simp
  | n + 1, [], t, hn, h => by simp [bareGo] at h; subst h; simp
  | n + 1, [a], t, hn, h => by simp [bareGo] at h; subst h; simp
  | n + 1, a :: b :: s, t, hn, h => by
    simp only [bareGo] at h
    split at h
    · cases h
    · cases hg : bareGo I s with
      | none => rw [hg] at h; cases h
      | some t' =>
        rw [hg] at h
        cases h
        have := bareGo_len I n s t' (by simp at hn; omega) hg
        simp; omega
theorem bareA_len (I : UInt8 → Int) (s : List UInt8) : (bareA I s).1.length ≤ s.length := by
  unfold bareA
  split
  · simp
  · split
    · simp
    · cases hg : bareGo I s with
      | none => simp
      | some t => exact bareGo_len I s.length s t (Nat.le_refl _) hg

theorem stepA_ok (Y : ScriptLib5 L) (l : List (List UInt8)) (hl : ∀ s ∈ l, s.length ≤ 2 ^ 31) : (stepA Y.idxD Y.atoiA l).1.ok := by
  have hd : ∀ i, (l.drop 1).getD i [] = [] ∨ (l.drop 1).getD i [] ∈ l := fun i => by
    rw [List.getD_eq_getElem?_getD, List.getElem?_drop]
    cases h : l[1 + i]? with
    | none => exact .inl rfl
    | some x => exact .inr (List.mem_of_getElem? h)
  have hlen : ∀ i, ((l.drop 1).getD i []).length ≤ 2 ^ 31 := fun i => by
    rcases hd i with h | h
    · rw [h]; simp
    · exact hl _ h
  have hb := fun s => bareA_len Y.idxD s
  have h0 := hlen 0
  have h2 := hlen 2
  have hb2 := hb ((l.drop 1).getD 2 [])
  unfold stepA StepA.ok
  dsimp only
  split
  · exact ⟨Y.atoi_range _, by dsimp only; omega, by dsimp only; omega⟩
  · split
    · exact ⟨Y.atoi_range _, by simp, by simp⟩
    · split
      · exact ⟨by decide, by simp, by simp⟩
      · split
        · exact ⟨by simp, by dsimp only; omega, by simp⟩
        · exact ⟨by decide, by simp [zeroS], by simp [zeroS]⟩

theorem joinA_len (c : UInt8) (n : Nat) : ∀ l : List (List UInt8), (∀ w ∈ l, w.length ≤ n) → (joinA c l).length ≤ l.length * (n + 1)
  | [], h => by simp [joinA]
  | [w], h => by have := h w (by simp); simp [joinA]; omega
  | w :: u :: r, h => by
    have ih := joinA_len c n (u :: r) (fun x hx => h x (by simp at hx ⊢; right; exact hx))
    have := h w (by simp)
    simp only [joinA, List.length_append, List.length_cons, Nat.add_mul] at ih ⊢
    omega

theorem words_len (Y : ScriptLib5 L) (x : StepA) (hx : x.ok) : (joinA 32 (wordsA Y.itoaA x)).length ≤ 2 ^ 40 ∧ (wordsA Y.itoaA x).length ≤ 4 := by
  have hh : (hexA x.text).length ≤ 2 ^ 39 + 1 := by
    have := hx.2.2
    unfold hexA
    split
    · simp
    · rw [hexRaw_len]; omega
  have hf := Y.itoa_len x.n hx.1.1 hx.1.2
  have h2 := hx.2.1
  have hw : (namesA.getD x.kind.toNat []).length ≤ 7 := by
    rcases (by omega : x.kind.toNat = 0 ∨ x.kind.toNat = 1 ∨ x.kind.toNat = 2 ∨ x.kind.toNat = 3 ∨ x.kind.toNat = 4 ∨ x.kind.toNat = 5 ∨ x.kind.toNat = 6 ∨ 7 ≤ x.kind.toNat) with h | h | h | h | h | h | h | h <;> first
      | (rw [h]; decide)
      | (rw [List.getD_eq_getElem?_getD, List.getElem?_eq_none (by show 7 ≤ _; omega)]; simp)
  unfold wordsA
  dsimp only
  generalize namesA.getD x.kind.toNat [] = w at hw ⊢
  split
  · simp only [joinA, List.length_append, List.length_cons, List.length_nil]; omega
  · split
    · simp only [joinA, List.length_append, List.length_cons, List.length_nil]; omega
    · split
      · simp only [joinA, List.length_cons, List.length_nil]; omega
      · simp only [joinA, List.length_append, List.length_cons, List.length_nil]; omega

theorem check_kind (Y : ScriptLib4 L) (x : StepA) (h : checkA Y x = 0) : 0 ≤ x.kind ∧ x.kind ≤ 6 := by
  unfold checkA at h
  split at h
  · cases h
  · omega
theorem check_01 (Y : ScriptLib4 L) (x : StepA) : checkA Y x = 0 ∨ checkA Y x = 1 := by
  unfold checkA
  split
  · exact .inr rfl
  · split
    · exact .inr rfl
    · split
      · exact .inl rfl
      · exact .inr rfl

/-- The contracts of the package's functions. -/
structure ScriptFns (T : Tab) where
  Y : ScriptLib5 T.L
  h8 : T.has 8 c_8
  h15 : T.has 15 c_15
  h16 : T.has 16 c_16
  h29 : T.has 29 c_29
  h31 : T.has 31 c_31
  h33 : T.has 33 c_33
  h51 : T.has 51 c_51
  h21 : T.has 21 c_21
  h19 : T.has 19 c_19
  h10 : T.has 10 c_10
  h11 : T.has 11 c_11

theorem ScriptFns.check (F : ScriptFns T) (x : StepA) (hx : x.ok) : Pure T.L 8 [x.av] (.int .i64 (checkA F.Y.toScriptLib4 x)) := check_spec F.Y.toScriptLib4 F.h8 F.h15 F.h16 F.h29 F.h31 F.h33 F.h51 F.h21 x hx
theorem ScriptFns.words (F : ScriptFns T) (x : StepA) (hx : x.ok) (hk : 0 ≤ x.kind ∧ x.kind ≤ 6) : Pure T.L 16 [x.av] (.lst (strs (wordsA F.Y.itoaA x)) .none) :=
  words_spec F.Y.toScriptLib2 F.h16 F.h29 F.h33 F.h51 F.h21 x hk hx.1 (by have := hx.2.2; omega)

theorem parse_spec (F : ScriptFns T) (s : List UInt8) (hs : s.length ≤ 2 ^ 31) : Pure T.L 11 [.str s] (parseV [] (parseF F.Y s.length s)) := by
  refine Pure.run (fun y hy => by simp only [List.mem_singleton] at hy; subst hy; exact .str s) (low_parseV 0 _ _) (acallsF F.h11 (by simp [c_11]) ?_)
  conv => whnf
  intro I hI hG
  generalize hR : parseV [] (parseF F.Y s.length s) = R at hI
  have key : ∀ (k : Nat) (s : List UInt8) (l : List StepA) (e : Env) (H : Heap) (tk : Tok), s.length ≤ k → l.length + s.length ≤ 2 ^ 31 → Acc 0 H (l.map StepA.av) 28 tk → parseV l (parseF F.Y k s) = R →
      I (setL e [(0, .str s), (5, .lst (l.map StepA.av) tk)]) H := by
    intro k
    induction k with
    | zero =>
      intro s l e H tk hk hb ha hR
      obtain rfl : s = [] := List.eq_nil_of_length_eq_zero (by omega)
      apply hI
      conv => whnf
      rw [← hR]
      refine ret_weak (Weak.tup ⟨?_, Weak.refl _, Weak.refl _, trivial⟩)
      rw [List.append_nil]
      exact Weak.tok _ _
    | succ k ih =>
      intro s l e H tk hk hb ha hR
      apply hI
      cases he : (s == [])
      · have hne : s ≠ [] := by simpa using he
        obtain ⟨c1, c2, c3⟩ := cutA_len 10 s
        have c3 := c3 hne
        have hcut := F.Y.cut s (by omega)
        simp only [parseF, if_neg hne] at hR
        unfold goodA at hR
        dsimp only at hR
        obtain ⟨line, rest, whole, hc⟩ : ∃ a b c, cutA 10 s = (a, b, c) := ⟨_, _, _, rfl⟩
        rw [hc] at hcut hR c1 c2 c3
        dsimp only at hcut hR c1 c2 c3
        have hsplit := F.Y.split line (by omega)
        obtain ⟨w, r, hw, hw1, hw2⟩ := splitA_cons 32 line
        have hok := stepA_ok F.Y (splitA 32 line) (fun u hu => by
          rw [hw] at hu
          rcases List.mem_cons.1 hu with rfl | hu
          · omega
          · have := hw2 u hu; omega)
        rw [hw] at hsplit hR hok
        have hstep := step_spec F.Y.toScriptLib3 F.h15 F.h29 F.h31 w r (fun u hu => by have := hw2 u hu; omega)
        obtain ⟨x, ok, hx⟩ : ∃ x ok, stepA F.Y.idxD F.Y.atoiA (w :: r) = (x, ok) := ⟨_, _, rfl⟩
        rw [hx] at hstep hR hok
        dsimp only at hstep hR hok
        conv => whnf
        rw [he]
        conv => whnf
        refine hcut.to ?_
        conv => whnf
        refine hsplit.to ?_
        conv => whnf
        refine hstep.to ?_
        conv => whnf
        obtain ⟨H1, s1, h1, ho1, hk1⟩ := store_next (off := 0) (k := 4) (x := x.av) (get_new H (.cells zeroS.cells 28)) rfl (by decide)
        have h1 : H1[H.length]? = some (.cells x.cells 28) := h1
        have ha1 : Acc 0 H1 (l.map StepA.av) 28 tk := ha.keepTail fun i m hi hH => ho1 i _ (get_push hH _) (fun e => by subst e; have := get_lt hH; omega)
        refine step_store ⟨rfl, rfl⟩ s1 ?_
        have bad : ¬ (whole = true ∧ ok = true ∧ checkA F.Y.toScriptLib4 x = 0 ∧ joinA 32 (wordsA F.Y.itoaA x) = line) →
            ∃ z, ARet.ret (.tup [.lst [] .nil, .int .i64 (IntKind.i64.wrap ((((l.map StepA.av).length : Nat) : Int) + 1)), .int .i64 7]) = .ret z ∧ Weak T.L z R := fun hn => by
          rw [if_neg hn] at hR
          refine ret_weak ?_
          rw [← hR]
          refine Weak.tup ⟨Weak.tok _ _, ?_, Weak.refl _, trivial⟩
          rw [List.length_map, add1 (by omega)]
          exact Weak.refl _
        cases whole
        · conv => whnf
          exact bad (by simp)
        cases ok
        · conv => whnf
          exact bad (by simp)
        conv => whnf
        refine step_load (load_all h1 rfl) ?_
        conv => whnf
        refine (F.check x hok).to ?_
        rcases check_01 F.Y.toScriptLib4 x with hck | hck
        rotate_left
        · rw [hck] at bad ⊢
          conv => whnf
          exact bad (by simp)
        obtain ⟨hj1, hj2⟩ := words_len F.Y x hok
        have hkind := check_kind _ _ hck
        rw [hck] at bad hR ⊢
        conv => whnf
        refine step_load (load_all h1 rfl) ?_
        conv => whnf
        refine (F.words x hok hkind).to ?_
        conv => whnf
        refine (F.Y.join _ hj1 (by omega)).to ?_
        conv => whnf
        cases hjn : (joinA 32 (wordsA F.Y.itoaA x) == line)
        · conv => whnf
          exact bad (by simp at hjn; simp [hjn])
        · have hjn : joinA 32 (wordsA F.Y.itoaA x) = line := by simpa using hjn
          conv => whnf
          refine step_load (load_all h1 rfl) ?_
          conv => whnf
          refine ⟨fun p hp => by simp only [List.mem_singleton] at hp; subst hp; exact ⟨rfl, rfl⟩, ?_⟩
          conv => whnf
          refine app_acc (n := 0) (xs := l.map StepA.av) (ys := [x].map StepA.av) (sized_avs _) (sized_avs _) (by simp; omega) (by simp; omega) (by simp) (Nat.zero_le _) ha1 fun tk' H2 hg ha2 => ?_
          conv => whnf
          refine inv_of [(0, .str rest), (5, .lst ((l ++ [x]).map StepA.av) tk')] ⟨rfl, by rw [List.map_append]; rfl, trivial⟩ (ih rest (l ++ [x]) _ H2 tk' (by omega) (by simp; omega) (by rw [List.map_append]; exact ha2) ?_)
          rw [← hR, if_pos ⟨rfl, rfl, rfl, hjn⟩]
          dsimp only
          cases parseF F.Y k rest with
          | inl l' => simp [parseV]
          | inr n =>
            simp only [parseV, List.length_append, List.length_cons, List.length_nil]
            rw [show l.length + (0 + 1) + n = l.length + (n + 1) from by omega]
      · obtain rfl : s = [] := by simpa using he
        simp only [parseF, if_true] at hR
        conv => whnf
        rw [← hR]
        refine ret_weak (Weak.tup ⟨?_, Weak.refl _, Weak.refl _, trivial⟩)
        rw [List.append_nil]
        exact Weak.tok _ _
  exact inv_of [(0, .str s), (5, .lst [] .nil)] ⟨rfl, rfl, trivial⟩ (key s.length s [] _ _ .nil (Nat.le_refl _) (by simpa using hs) (.inl ⟨rfl, rfl⟩) hR)

end Go.Ag

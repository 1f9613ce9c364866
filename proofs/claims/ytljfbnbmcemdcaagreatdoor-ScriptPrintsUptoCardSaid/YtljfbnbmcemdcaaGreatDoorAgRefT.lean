/- Package cupelref05: has, Insert, Number. -/
import Derived.Test.YtljfbnbmcemdcaaGreatDoorAgRefP
set_option linter.unusedVariables false
namespace Go.Ag
open Go

variable {T : Tab} {L : Lnk}

def hasR (l : List Bytes) (s : Bytes) : Bool := l.any (· == s)

theorem sized_strA (l : List Bytes) : Sized 1 (strA l) := fun x hx => by
  obtain ⟨s, _, rfl⟩ := List.mem_map.1 hx
  exact ⟨rfl, rfl⟩
theorem strA_at {l : List Bytes} {k : Nat} (h : k < l.length) : (strA l)[((k : Nat) : Int).toNat]? = some (.str l[k]) := by
  rw [Int.toNat_natCast, strA, List.getElem?_map, List.getElem?_eq_getElem h]; rfl
theorem step_strA {l : List Bytes} {k : Nat} (h : k < l.length) {P : AVal → Prop} (hp : P (.str l[k])) : 0 ≤ ((k : Nat) : Int) ∧ (match (strA l)[((k : Nat) : Int).toNat]? with
    | some y => y.cells.length = 1 ∧ P y
    | none => False) := ⟨by omega, by rw [strA_at h]; exact ⟨rfl, hp⟩⟩
theorem strA_len (l : List Bytes) : (strA l).length = l.length := by simp [strA]

theorem has_spec (h85 : T.has 85 c_85) (l : List Bytes) (s : Bytes) (hl : l.length ≤ 2 ^ 60) (tk : Tok) (ht : tokLow 0 tk) : Pure T.L 85 [.lst (strA l) tk, .str s] (.bool (hasR l s)) := by
  refine Pure.run (fun y hy => by simp only [List.mem_cons, List.not_mem_nil, or_false] at hy; rcases hy with rfl | rfl <;> first | exact low_strs' _ _ _ ht | constructor) (.bool _) (acallsG h85 (by simp [c_85]) ?_)
  conv => whnf
  intro I hI hG
  have key : ∀ (d k : Nat) (e : Env), l.length - k = d → k ≤ l.length → hasR l s = hasR (l.drop k) s → I (setL e [(0, .lst (strA l) tk), (1, .str s), (5, .int .i64 k)]) [] := by
    intro d
    induction d with
    | zero =>
      intro k e hd hk hv
      obtain rfl : k = l.length := by omega
      apply hI
      conv => whnf
      rw [strA_len, lt_false (Nat.le_refl _)]
      conv => whnf
      rw [hv, List.drop_length]
      exact ret_weak (Weak.refl _)
    | succ d ih =>
      intro k e hd hk hv
      have hlt : k < l.length := by omega
      apply hI
      conv => whnf
      rw [strA_len, lt_true hlt]
      conv => whnf
      refine step_strA hlt ?_
      conv => whnf
      rw [List.drop_eq_getElem_cons hlt] at hv
      simp only [hasR, List.any_cons] at hv
      cases hc : (l[k] == s)
      · conv => whnf
        refine inv_of [(0, .lst (strA l) tk), (1, .str s), (5, .int .i64 ((k + 1 : Nat) : Int))] ⟨rfl, rfl, add1 (by omega), trivial⟩ (ih (k + 1) _ (by omega) (by omega) ?_)
        rw [hc, Bool.false_or] at hv
        exact hv
      · conv => whnf
        rw [hc, Bool.true_or] at hv
        rw [show hasR l s = true from hv]
        exact ret_weak (Weak.refl _)
  exact inv_of [(0, .lst (strA l) tk), (1, .str s), (5, .int .i64 0)] ⟨rfl, rfl, rfl, trivial⟩ (key l.length 0 _ rfl (by omega) rfl)

/-! Number -/
def numStep (n : Int) (c : UInt8) : Int := IntKind.i64.wrap (IntKind.i64.wrap (10 * n) + IntKind.i64.wrap (IntKind.u8.wrap ((c.toNat : Int) - 48)))
def numberR (s : Bytes) : Int := s.foldl numStep 0

theorem number_spec (h84 : T.has 84 c_84) (s : Bytes) (hs : s.length ≤ 2 ^ 60) : Pure T.L 84 [.str s] (.int .i64 (numberR s)) := by
  refine Pure.run (fun y hy => by simp only [List.mem_cons, List.not_mem_nil, or_false] at hy; rcases hy with rfl; constructor) (.int _ _) (acallsG h84 (by simp [c_84]) ?_)
  conv => whnf
  intro I hI hG
  have key : ∀ (d k : Nat) (e : Env) (n : Int), s.length - k = d → k ≤ s.length → numberR s = (s.drop k).foldl numStep n → I (setL e [(0, .str s), (3, .int .i64 n), (4, .int .i64 k)]) [] := by
    intro d
    induction d with
    | zero =>
      intro k e n hd hk hv
      obtain rfl : k = s.length := by omega
      apply hI
      conv => whnf
      rw [lt_false (Nat.le_refl _)]
      conv => whnf
      rw [hv, List.drop_length]
      exact ret_weak (Weak.refl _)
    | succ d ih =>
      intro k e n hd hk hv
      have hlt : k < s.length := by omega
      apply hI
      conv => whnf
      rw [lt_true hlt]
      conv => whnf
      refine step_at hlt ?_
      conv => whnf
      rw [List.drop_eq_getElem_cons hlt, List.foldl_cons] at hv
      exact inv_of [(0, .str s), (3, .int .i64 (numStep n s[k])), (4, .int .i64 ((k + 1 : Nat) : Int))] ⟨rfl, rfl, add1 (by omega), trivial⟩ (ih (k + 1) _ _ (by omega) (by omega) hv)
  exact inv_of [(0, .str s), (3, .int .i64 0), (4, .int .i64 0)] ⟨rfl, rfl, rfl, trivial⟩ (key s.length 0 _ 0 rfl (by omega) rfl)

/-! Insert -/
def lowR (names : List Bytes) (name : Bytes) : Nat := (names.takeWhile (bytesLess · name)).length
def insR {α : Type} (l : List α) (i : Nat) (x : α) : List α := l.take i ++ [x] ++ l.drop i

theorem tas_take (l : List TA) (i : Nat) : (TA.avs l).take i = TA.avs (l.take i) := by
  induction l generalizing i with
  | nil => simp [TA.avs]
  | cons x l ih => cases i with
    | zero => simp [TA.avs]
    | succ i => simp [TA.avs, ih]
theorem tas_drop (l : List TA) (i : Nat) : (TA.avs l).drop i = TA.avs (l.drop i) := by
  induction l generalizing i with
  | nil => simp [TA.avs]
  | cons x l ih => cases i with
    | zero => simp [TA.avs]
    | succ i => simp [TA.avs, ih]

theorem insert_spec (h104 : T.has 104 c_104) (k0 : Int) (n0 : Bytes) (names : List Bytes) (l : List TA) (name : Bytes) (x : TA) (hl : l.length = names.length) (hn : names.length ≤ 2 ^ 36) (xk : Int) (xn : Bytes) (xs : List Bytes) (xl : List TA) (hx : x = .mk xk xn xs xl) :
    Pure T.L 104 [(TA.mk k0 n0 names l).av, .str name, x.av] (TA.mk 5 [] (insR names (lowR names name) name) (insR l (lowR names name) x)).av := by
  subst hx
  refine Pure.runD 2 (fun y hy => by simp only [List.mem_cons, List.not_mem_nil, or_false] at hy; rcases hy with rfl | rfl | rfl <;> first | exact low_ta _ _ | constructor) (low_ta _ _) (acallsG h104 (by simp [c_104]) ?_)
  conv => whnf
  intro I hI hG
  have key : ∀ (d k : Nat) (e : Env), names.length - k = d → k ≤ names.length → lowR names name = k + lowR (names.drop k) name → I (setL e [(1, .str name), (3, .ptr 2 0), (5, .ptr 3 0), (6, .ptr 4 0), (7, .int .i64 k)])
      [.dead, .dead, .cells [.int .i64 k0, .str n0, .lst (strA names) .none, .lst (TA.avs l) .none] 109, .cells [.int .i64 xk, .str xn, .lst (strA xs) .none, .lst (TA.avs xl) .none] 109, .cells [.int .i64 0, .str [], .lst [] .nil, .lst [] .nil] 109] := by
    have fin : ∀ (k : Nat) (e : Env), k ≤ names.length → lowR names name = k → (k < names.length → (h : k < names.length) → bytesLess names[k] name = false) → I (setL e [(1, .str name), (3, .ptr 2 0), (5, .ptr 3 0), (6, .ptr 4 0), (7, .int .i64 k)])
      [.dead, .dead, .cells [.int .i64 k0, .str n0, .lst (strA names) .none, .lst (TA.avs l) .none] 109, .cells [.int .i64 xk, .str xn, .lst (strA xs) .none, .lst (TA.avs xl) .none] 109, .cells [.int .i64 0, .str [], .lst [] .nil, .lst [] .nil] 109] := by
      intro k e hk hv hst
      have hks : k ≤ (strA names).length := by rw [strA_len]; exact hk
      have hkl : k ≤ (TA.avs l).length := by rw [tas_len]; omega
      have s1 : Sized 1 ((strA names).take k) := fun x hx => sized_strA names x (List.mem_of_mem_take hx)
      have s2 : Sized 4 ((TA.avs l).take k) := fun x hx => sized_tas l x (List.mem_of_mem_take hx)
      have s3 : Sized 1 ((strA names).drop k) := fun x hx => sized_strA names x (List.mem_of_mem_drop hx)
      have s4 : Sized 4 ((TA.avs l).drop k) := fun x hx => sized_tas l x (List.mem_of_mem_drop hx)
      have n1 : ((strA names).take k).length = k := by rw [List.length_take]; omega
      have n2 : ((TA.avs l).take k).length = k := by rw [List.length_take]; omega
      have n3 : ((strA names).drop k).length = names.length - k := by rw [List.length_drop, strA_len]
      have n4 : ((TA.avs l).drop k).length = names.length - k := by rw [List.length_drop, tas_len]; omega
      have s5 : Sized 1 ((strA names).take k ++ [.str name]) := fun x hx => by
        rcases List.mem_append.1 hx with hx | hx
        · exact s1 x hx
        · exact sized_one rfl x hx
      have s6 : Sized 4 ((TA.avs l).take k ++ [AVal.agg [.int .i64 xk, .str xn, .lst (strA xs) .none, .lst (TA.avs xl) .none]]) := fun x hx => by
        rcases List.mem_append.1 hx with hx | hx
        · exact s2 x hx
        · exact sized_one rfl x hx
      have b1 : (((strA names).take k ++ [AVal.str name]).length + ((strA names).drop k).length) * 16 ≤ 2 ^ 46 := by rw [List.length_append, n1, n3]; simp; omega
      have b2 : ((strA names).take k ++ [AVal.str name]).length + ((strA names).drop k).length ≤ 2 ^ 46 := by rw [List.length_append, n1, n3]; simp; omega
      have b3 : (((TA.avs l).take k ++ [AVal.agg [.int .i64 xk, .str xn, .lst (strA xs) .none, .lst (TA.avs xl) .none]]).length + ((TA.avs l).drop k).length) * 72 ≤ 2 ^ 46 := by rw [List.length_append, n2, n4]; simp; omega
      have b4 : ((TA.avs l).take k ++ [AVal.agg [.int .i64 xk, .str xn, .lst (strA xs) .none, .lst (TA.avs xl) .none]]).length + ((TA.avs l).drop k).length ≤ 2 ^ 46 := by rw [List.length_append, n2, n4]; simp; omega
      apply hI
      conv => whnf
      rcases Nat.lt_or_ge k names.length with hlt | hge
      case' inl =>
        rw [strA_len, lt_true hlt]
        conv => whnf
        refine step_strA hlt ?_
        conv => whnf
        rw [hst hlt hlt]
      case' inr =>
        rw [strA_len, lt_false hge]
      all_goals
        conv => whnf
        refine ⟨Nat.zero_le _, hks, sized_strA _, ?_⟩
        conv => whnf
        refine app_slotF (id := 0) (xs := []) (fun x hx => by cases hx) s1 (by simp; omega) (by simp; omega) rfl ?_
        conv => whnf
        refine ⟨Nat.zero_le _, hkl, sized_tas _, ?_⟩
        conv => whnf
        refine app_slotF (id := 1) (xs := []) (fun x hx => by cases hx) s2 (by simp; omega) (by simp; omega) rfl ?_
        conv => whnf
        refine app_slotF (id := 0) (xs := (strA names).take k) s1 (sized_one rfl) (by rw [n1]; simp; omega) (by rw [n1]; simp; omega) rfl ?_
        conv => whnf
        refine app_slotF (id := 1) (xs := (TA.avs l).take k) s2 (sized_one rfl) (by rw [n2]; simp; omega) (by rw [n2]; simp; omega) rfl ?_
        conv => whnf
        refine ⟨hks, Nat.le_refl _, sized_strA _, ?_⟩
        conv => whnf
        refine ⟨hkl, Nat.le_refl _, sized_tas _, ?_⟩
        conv => whnf
        rw [List.take_length]
        refine app_slotF (id := 0) s5 s3 b1 b2 rfl ?_
        conv => whnf
        rw [List.take_length]
        refine app_slotF (id := 1) s6 s4 b3 b4 rfl ?_
        conv => whnf
        refine ret_weak ?_
        rw [hv]
        have e1 : (strA names).take k ++ [AVal.str name] ++ (strA names).drop k = strA (insR names k name) := by simp [strA, insR, List.map_take, List.map_drop]
        have e2 : (TA.avs l).take k ++ [AVal.agg [.int .i64 xk, .str xn, .lst (strA xs) .none, .lst (TA.avs xl) .none]] ++ (TA.avs l).drop k = TA.avs (insR l k (.mk xk xn xs xl)) := by
          rw [insR, tas_append, tas_append, tas_take, tas_drop]; rfl
        rw [TA.av, ← e1, ← e2]
        exact Weak.agg ⟨Weak.refl _, Weak.refl _, Weak.tok _ _, Weak.tok _ _, trivial⟩
    intro d
    induction d with
    | zero =>
      intro k e hd hk hv
      obtain rfl : k = names.length := by omega
      exact fin _ e (Nat.le_refl _) (by rw [hv, List.drop_length]; simp [lowR]) (fun h => absurd h (Nat.lt_irrefl _))
    | succ d ih =>
      intro k e hd hk hv
      have hlt : k < names.length := by omega
      cases hc : bytesLess names[k] name
      · refine fin _ e hk ?_ (fun _ _ => hc)
        rw [hv, List.drop_eq_getElem_cons hlt]
        unfold lowR
        rw [List.takeWhile_cons_of_neg (p := fun x => bytesLess x name) (by simp [hc])]
        simp
      · apply hI
        conv => whnf
        rw [strA_len, lt_true hlt]
        conv => whnf
        refine step_strA hlt ?_
        conv => whnf
        rw [hc]
        conv => whnf
        refine inv_of [(1, .str name), (3, .ptr 2 0), (5, .ptr 3 0), (6, .ptr 4 0), (7, .int .i64 ((k + 1 : Nat) : Int))] ⟨rfl, rfl, rfl, rfl, add1 (by omega), trivial⟩ (ih (k + 1) _ (by omega) (by omega) ?_)
        rw [hv, List.drop_eq_getElem_cons hlt]
        unfold lowR
        rw [List.takeWhile_cons_of_pos (p := fun x => bytesLess x name) hc, List.length_cons]
        omega
  exact inv_of [(1, .str name), (3, .ptr 2 0), (5, .ptr 3 0), (6, .ptr 4 0), (7, .int .i64 0)] ⟨rfl, rfl, rfl, rfl, rfl, trivial⟩ (key names.length 0 _ rfl (by omega) (by simp))

end Go.Ag

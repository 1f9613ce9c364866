/- Far, ScriptPrints. -/
import Derived.Test.YtljfbnbmcemdcaaGreatDoorAgPrB
import Derived.Test.YtljfbnbmcemdcaaGreatDoorAgPrLaw
set_option linter.unusedVariables false
namespace Go.Ag
open Go

variable {T : Tab} {L : Lnk}

theorem step_av {l : List StepA} {k : Nat} (h : k < l.length) {P : AVal → Prop} (hp : P (.agg [.int .i64 l[k].kind, .str l[k].name, .str l[k].text, .int .i64 l[k].n])) :
    0 ≤ ((k : Nat) : Int) ∧ (match (l.map StepA.av)[((k : Nat) : Int).toNat]? with
    | some y => y.cells.length = 4 ∧ P y
    | none => False) := by
  refine ⟨by omega, ?_⟩
  rw [Int.toNat_natCast, List.getElem?_map, List.getElem?_eq_getElem h]
  exact ⟨rfl, hp⟩

/-- The functions of this law. -/
structure PrFns (T : Tab) : Prop extends PFns T where
  h25 : T.has 25 c_25
  h12 : T.has 12 c_12
  h6 : T.has 6 c_6
  h7 : T.has 7 c_7
  h9 : T.has 9 c_9
  h13 : T.has 13 c_13
  h17 : T.has 17 c_17
  h34 : T.has 34 c_34
  hex : ∀ s : List UInt8, s.length ≤ 300 → Pure T.L 18 [.str s] (.str (hexA s))

def nearA (x : StepA) : Prop := x.text.length ≤ 300 ∧ x.name.length ≤ 60

theorem far_spec (F : PrFns T) (l : List StepA) (hl : l.length ≤ 2 ^ 32) (ht : ∀ x ∈ l, x.text.length ≤ 2 ^ 32 ∧ x.name.length ≤ 2 ^ 32) :
    PureE T.L 6 [.lst (l.map StepA.av) .none] fun y => ∃ b, y = .bool b ∧ (b = false → l.length ≤ 30 ∧ ∀ x ∈ l, nearA x) := by
  refine PureE.run (low1 (low_avs _ _)) (acallsG F.h6 (by simp [c_6]) ?_)
  conv => whnf
  intro I hI hG
  have hlen : (l.map StepA.av).length = l.length := by simp
  have out : ∃ x y, ARet.ret (.bool true) = .ret x ∧ Weak T.L x y ∧ Low 0 y ∧ ∃ b, y = .bool b ∧ (b = false → l.length ≤ 30 ∧ ∀ x ∈ l, nearA x) := ⟨_, _, rfl, Weak.refl _, .bool _, true, rfl, fun h => by cases h⟩
  have key : ∀ (d j : Nat) (e : Env) (n : Int), l.length - j = d → j ≤ l.length → (∀ x ∈ l.take j, nearA x) → I (setL e [(0, .lst (l.map StepA.av) .none), (3, .int .i64 n), (4, .int .i64 j)]) [] := by
    intro d
    induction d with
    | zero =>
      intro j e n hd hj hnear
      obtain rfl : j = l.length := by omega
      rw [List.take_length] at hnear
      apply hI
      conv => whnf
      rw [hlen, lt_false (Nat.le_refl _)]
      conv => whnf
      rw [hlen]
      cases h30 : decide (((l.length : Nat) : Int) > 30)
      · conv => whnf
        exact ⟨_, _, rfl, Weak.refl _, .bool _, _, rfl, fun _ => ⟨by simp at h30; omega, hnear⟩⟩
      · conv => whnf
        exact out
    | succ d ihd =>
      intro j e n hd hj hnear
      have hlt : j < l.length := by omega
      obtain ⟨t1, t2⟩ := ht l[j] (List.getElem_mem hlt)
      apply hI
      conv => whnf
      rw [hlen, lt_true hlt]
      conv => whnf
      refine step_av hlt ?_
      conv => whnf
      refine ⟨Nat.zero_le _, ?_⟩
      conv => whnf
      have rest : ∀ (e' : Env) (m : Int), nearA l[j] → envHas e' [(0, .lst (l.map StepA.av) .none), (3, .int .i64 m), (4, .int .i64 ((j + 1 : Nat) : Int))] → I e' [] := fun e' m hn he =>
        inv_of _ he (ihd (j + 1) _ m (by omega) (by omega) (fun x hx => by
          rw [List.take_succ_eq_append_getElem hlt] at hx
          rcases List.mem_append.1 hx with hx | hx
          · exact hnear x hx
          · simp only [List.mem_singleton] at hx; subst hx; exact hn))
      cases hk : (l[j].kind == 0)
      case' true =>
        conv => whnf
        refine step_av hlt ?_
        conv => whnf
        refine ⟨by simp [AVal.cells], ?_⟩
        conv => whnf
        refine (grows_spec F.toPFns F.h12 F.h25 l[j].text t1).to fun y hy => ?_
        obtain ⟨v, rfl⟩ := hy
      all_goals
        conv => whnf
        refine step_av hlt ?_
        conv => whnf
        refine ⟨by simp [AVal.cells], ?_⟩
        conv => whnf
        cases h3 : decide ((l[j].text.length : Int) > 300)
        · conv => whnf
          refine step_av hlt ?_
          conv => whnf
          refine ⟨by simp [AVal.cells], ?_⟩
          conv => whnf
          cases h4 : decide ((l[j].name.length : Int) > 60)
          · conv => whnf
            exact rest _ _ ⟨by simp at h3; omega, by simp at h4; omega⟩ ⟨rfl, rfl, add1 (by omega), trivial⟩
          · conv => whnf
            exact out
        · conv => whnf
          exact out
  exact inv_of [(0, .lst (l.map StepA.av) .none), (3, .int .i64 0), (4, .int .i64 0)] ⟨rfl, rfl, rfl, trivial⟩ (key _ 0 _ _ rfl (by omega) (fun x hx => by simp at hx))

theorem step_last {XS : List AVal} {y : AVal} {j : Nat} (hX : XS.length = j) {P : AVal → Prop} (hy : y.cells.length = 4) (hp : P y) : 0 ≤ ((j : Nat) : Int) ∧ (match (XS ++ [y])[((j : Nat) : Int).toNat]? with
    | some y => y.cells.length = 4 ∧ P y
    | none => False) := ⟨by omega, by rw [Int.toNat_natCast, ← hX, List.getElem?_append_right (Nat.le_refl _), Nat.sub_self]; exact ⟨hy, hp⟩⟩

theorem lineB_len (x : StepA) (h : nearA x) (hn : -9223372036854775808 ≤ x.n ∧ x.n ≤ 9223372036854775807) : (lineB x).length ≤ 1000 := by
  have h1 := itoa_len x.n hn.1 hn.2
  have h2 := hexA_len x.text
  obtain ⟨h3, h4⟩ := h
  have hw : (namesA.getD x.kind.toNat []).length ≤ 7 := by
    rcases (by omega : x.kind.toNat = 0 ∨ x.kind.toNat = 1 ∨ x.kind.toNat = 2 ∨ x.kind.toNat = 3 ∨ x.kind.toNat = 4 ∨ x.kind.toNat = 5 ∨ x.kind.toNat = 6 ∨ 7 ≤ x.kind.toNat) with h | h | h | h | h | h | h | h <;> first
      | (rw [h]; decide)
      | (rw [List.getD_eq_getElem?_getD, List.getElem?_eq_none (by show 7 ≤ _; omega)]; simp)
  unfold lineB
  dsimp only
  generalize namesA.getD x.kind.toNat [] = w at hw ⊢
  split
  · simp only [List.length_append, List.length_cons, List.length_nil]; omega
  · split
    · simp only [List.length_append, List.length_cons, List.length_nil]; omega
    · split
      · simp only [List.length_append, List.length_cons, List.length_nil]; omega
      · simp only [List.length_append, List.length_cons, List.length_nil]; omega

theorem lineA_len {Y : ScriptLib5 L} (Q : LibIs Y) (x : StepA) (h : nearA x) (hn : -9223372036854775808 ≤ x.n ∧ x.n ≤ 9223372036854775807) : (lineA Y x).length ≤ 3000 := by
  have h1 := itoa_len x.n hn.1 hn.2
  have h2 := hexA_len x.text
  obtain ⟨h3, h4⟩ := h
  have hw : (namesA.getD x.kind.toNat []).length ≤ 7 := by
    rcases (by omega : x.kind.toNat = 0 ∨ x.kind.toNat = 1 ∨ x.kind.toNat = 2 ∨ x.kind.toNat = 3 ∨ x.kind.toNat = 4 ∨ x.kind.toNat = 5 ∨ x.kind.toNat = 6 ∨ 7 ≤ x.kind.toNat) with h | h | h | h | h | h | h | h <;> first
      | (rw [h]; decide)
      | (rw [List.getD_eq_getElem?_getD, List.getElem?_eq_none (by show 7 ≤ _; omega)]; simp)
  unfold lineA wordsA
  rw [Q.itoa]
  dsimp only
  generalize namesA.getD x.kind.toNat [] = w at hw ⊢
  split
  · simp only [joinA, List.length_append, List.length_cons, List.length_nil]; omega
  · split
    · simp only [joinA, List.length_append, List.length_cons, List.length_nil]; omega
    · split
      · simp only [joinA, List.length_append, List.length_cons, List.length_nil]; omega
      · simp only [joinA, List.length_append, List.length_cons, List.length_nil]; omega

theorem flat_len {f : StepA → List UInt8} {b : Nat} : ∀ l : List StepA, (∀ x ∈ l, (f x).length ≤ b) → (l.flatMap f).length ≤ l.length * b
  | [], _ => by simp
  | x :: l, h => by
    rw [List.flatMap_cons, List.length_append, List.length_cons, Nat.add_mul]
    have := flat_len l (fun y hy => h y (by simp [hy]))
    have := h x (by simp)
    omega

set_option maxRecDepth 100000 in
theorem scriptPrints_spec (F : ScriptFns T) (P : PrFns T) (Q : LibIs F.Y) (h5 : T.has 5 c_5) (h4 : T.has 4 c_4) (l : List StepA) (hl : l.length ≤ 2 ^ 32) (ht : ∀ x ∈ l, x.text.length ≤ 2 ^ 32 ∧ x.name.length ≤ 2 ^ 32)
    (hn : ∀ x ∈ l, -9223372036854775808 ≤ x.n ∧ x.n ≤ 9223372036854775807) : Pure T.L 4 [.lst (l.map StepA.av) .none] (.bool true) := by
  refine Pure.runD 1 (low1 (low_avs _ _)) (.bool _) (acallsG h4 (by simp [c_4]) ?_)
  have hal := alive21_spec F Q h5
  have hlen : (l.map StepA.av).length = l.length := by simp
  conv => whnf
  refine hal.to ?_
  conv => whnf
  refine (far_spec P l hl ht).to fun y hy => ?_
  obtain ⟨b, rfl, hb⟩ := hy
  conv => whnf
  cases b
  case true =>
    conv => whnf
    exact ret_weak (Weak.refl _)
  obtain ⟨h30, hnear⟩ := hb rfl
  clear hb
  have hok : ∀ x ∈ l, x.ok := fun x hx => ⟨hn x hx, by have := (hnear x hx).2; omega, by have := (hnear x hx).1; omega⟩
  conv => whnf
  intro I hI hG
  have key : ∀ (d j : Nat) (e : Env) (XS : List AVal) (want : List UInt8) (ok : Bool), l.length - j = d → j ≤ l.length → XS = (l.take j).map StepA.av → ok = (l.take j).all rightB → (ok = true → want = (l.take j).flatMap lineB) → want.length ≤ j * 1000 →
      I (setL e [(0, .lst (l.map StepA.av) .none), (3, .lst XS (dtok XS.length 0)), (4, .str want), (5, .bool ok), (6, .int .i64 j)]) [dobj XS.length 28] := by
    intro d
    induction d with
    | zero =>
      intro j e XS want ok hd hj hX hK hW hWl
      obtain rfl : j = l.length := by omega
      rw [List.take_length] at hX hK hW
      apply hI
      conv => whnf
      rw [hlen, lt_false (Nat.le_refl _)]
      conv => whnf
      have hpr := print_spec F l hok (by have := flat_len l (fun x hx => lineA_len Q x (hnear x hx) (hn x hx)); omega) (by omega)
      rw [print_right Q l hn, ← hK] at hpr
      refine (hpr.weak (args := [.lst XS (dtok XS.length 0)]) ⟨by rw [hX]; exact Weak.tok _ _, trivial⟩).to ?_
      cases ok
      · conv => whnf
        exact ret_weak (Weak.refl _)
      · have hall : ∀ x ∈ l, rightB x = true := by
          have := hK.symm
          rw [List.all_eq_true] at this
          exact this
        have hflat : l.flatMap (lineA F.Y) = want := by
          rw [hW rfl]
          have : ∀ l : List StepA, (∀ x ∈ l, rightB x = true) → l.flatMap (lineA F.Y) = l.flatMap lineB := fun l => by
            induction l with
            | nil => intro _; rfl
            | cons x l ih => intro h; rw [List.flatMap_cons, List.flatMap_cons, line_line Q x (right_kind (h x (by simp))), ih (fun y hy => h y (by simp [hy]))]
          exact this l hall
        have hpl := parse_lines Q l (fun x hx => ⟨hall x hx, hn x hx⟩)
        rw [hflat] at hpl
        have hps := parse_spec F want (by omega)
        rw [show parseF F.Y want.length want = .inl l from hpl, show parseV [] (.inl l) = .tup [.lst (l.map StepA.av) .none, .int .i64 0, .int .i64 0] from rfl] at hps
        rw [hflat]
        conv => whnf
        refine hps.to ?_
        conv => whnf
        rw [show (want == want) = true from by simp]
        conv => whnf
        subst hX
        rw [hlen]
        rw [show (((l.length : Nat) : Int) != ((l.length : Nat) : Int)) = false from by simp]
        conv => whnf
        intro I2 hI2 hG2
        have key2 : ∀ (tk : Tok) (H0 : Heap) (d j : Nat) (e : Env), l.length - j = d → j ≤ l.length → I2 (setL e [(3, .lst (l.map StepA.av) tk), (10, .lst (l.map StepA.av) .none), (13, .int .i64 j)]) H0 := by
          intro tk H0 d
          induction d with
          | zero =>
            intro j e hd hj
            apply hI2
            conv => whnf
            rw [hlen, lt_false (by omega)]
            conv => whnf
            exact ret_weak (Weak.refl _)
          | succ d ih2 =>
            intro j e hd hj
            have hlt : j < l.length := by omega
            apply hI2
            conv => whnf
            rw [hlen, lt_true hlt]
            conv => whnf
            refine step_av hlt ?_
            conv => whnf
            refine step_av hlt ?_
            conv => whnf
            split
            · rename_i h
              exact absurd h (by show ¬ ((((_ : Int) == _) && _) != true) = true; simp)
            · conv => whnf
              exact inv_of [(3, .lst (l.map StepA.av) tk), (10, .lst (l.map StepA.av) .none), (13, .int .i64 ((j + 1 : Nat) : Int))] ⟨rfl, rfl, add1 (by omega), trivial⟩ (ih2 (j + 1) _ (by omega) (by omega))
        exact inv_of [(3, .lst (l.map StepA.av) (dtok l.length 0)), (10, .lst (l.map StepA.av) .none), (13, .int .i64 0)] ⟨rfl, rfl, rfl, trivial⟩ (key2 _ _ _ 0 _ rfl (by omega))
    | succ d ihd =>
      intro j e XS want ok hd hj hX hK hW hWl
      have hlt : j < l.length := by omega
      have hnj := hn l[j] (List.getElem_mem hlt)
      have hnearj := hnear l[j] (List.getElem_mem hlt)
      have hXl : XS.length = j := by rw [hX]; simp; omega
      have hsX : Sized 4 XS := by rw [hX]; exact sized_avs _
      apply hI
      conv => whnf
      rw [hlen, lt_true hlt]
      conv => whnf
      refine step_av hlt ?_
      conv => whnf
      refine app_slot (id := 0) hsX (sized_one rfl) (by rw [hXl]; simp; omega) (by rw [hXl]; simp; omega) (by simp) rfl ?_
      conv => whnf
      refine step_av hlt ?_
      conv => whnf
      refine (right_spec P.h7 P.h13 l[j] (by have := hnearj.2; omega)).to ?_
      conv => whnf
      refine step_last hXl rfl ?_
      conv => whnf
      refine (F.check l[j] (hok _ (List.getElem_mem hlt))).to ?_
      rw [check_right Q l[j] hnj]
      have hX2 : XS ++ [.agg [.int .i64 l[j].kind, .str l[j].name, .str l[j].text, .int .i64 l[j].n]] = (l.take (j + 1)).map StepA.av := by
        rw [List.take_succ_eq_append_getElem hlt, List.map_append, hX]; rfl
      have hall2 : (l.take (j + 1)).all rightB = ((l.take j).all rightB && rightB l[j]) := by
        rw [List.take_succ_eq_append_getElem hlt, List.all_append]; simp
      have hfl2 : (l.take (j + 1)).flatMap lineB = (l.take j).flatMap lineB ++ lineB l[j] := by
        rw [List.take_succ_eq_append_getElem hlt, List.flatMap_append]; simp
      have hline := line_spec P.h9 P.h17 P.h34 P.hex l[j]
      have hll := lineB_len l[j] hnearj hnj
      have hrk := right_kind (x := l[j])
      cases hr : rightB l[j]
      · conv => whnf
        cases ok
        · conv => whnf
          exact inv_of [(0, .lst (l.map StepA.av) .none), (3, .lst (XS ++ [AVal.agg [.int .i64 l[j].kind, .str l[j].name, .str l[j].text, .int .i64 l[j].n]]) (dtok (XS ++ [AVal.agg [.int .i64 l[j].kind, .str l[j].name, .str l[j].text, .int .i64 l[j].n]]).length 0)), (4, .str want), (5, .bool false), (6, .int .i64 ((j + 1 : Nat) : Int))] ⟨rfl, rfl, rfl, rfl, add1 (by omega), trivial⟩ (ihd (j + 1) _ (XS ++ [AVal.agg [.int .i64 l[j].kind, .str l[j].name, .str l[j].text, .int .i64 l[j].n]]) want false (by omega) (by omega) hX2 (by rw [hall2, hr]; simp) (fun h => by cases h) (by omega))
        · conv => whnf
          exact inv_of [(0, .lst (l.map StepA.av) .none), (3, .lst (XS ++ [AVal.agg [.int .i64 l[j].kind, .str l[j].name, .str l[j].text, .int .i64 l[j].n]]) (dtok (XS ++ [AVal.agg [.int .i64 l[j].kind, .str l[j].name, .str l[j].text, .int .i64 l[j].n]]).length 0)), (4, .str want), (5, .bool false), (6, .int .i64 ((j + 1 : Nat) : Int))] ⟨rfl, rfl, rfl, rfl, add1 (by omega), trivial⟩ (ihd (j + 1) _ (XS ++ [AVal.agg [.int .i64 l[j].kind, .str l[j].name, .str l[j].text, .int .i64 l[j].n]]) want false (by omega) (by omega) hX2 (by rw [hall2, hr]; simp) (fun h => by cases h) (by omega))
      · conv => whnf
        cases ok
        · conv => whnf
          exact inv_of [(0, .lst (l.map StepA.av) .none), (3, .lst (XS ++ [AVal.agg [.int .i64 l[j].kind, .str l[j].name, .str l[j].text, .int .i64 l[j].n]]) (dtok (XS ++ [AVal.agg [.int .i64 l[j].kind, .str l[j].name, .str l[j].text, .int .i64 l[j].n]]).length 0)), (4, .str want), (5, .bool false), (6, .int .i64 ((j + 1 : Nat) : Int))] ⟨rfl, rfl, rfl, rfl, add1 (by omega), trivial⟩ (ihd (j + 1) _ (XS ++ [AVal.agg [.int .i64 l[j].kind, .str l[j].name, .str l[j].text, .int .i64 l[j].n]]) want false (by omega) (by omega) hX2 (by rw [hall2, ← hK]; rfl) (fun h => by cases h) (by omega))
        · conv => whnf
          refine step_av hlt ?_
          conv => whnf
          refine (hline (hrk hr) hnearj.2 hnearj.1 hnj).to ?_
          conv => whnf
          refine step_some (add_str (by omega)) ?_
          conv => whnf
          exact inv_of [(0, .lst (l.map StepA.av) .none), (3, .lst (XS ++ [AVal.agg [.int .i64 l[j].kind, .str l[j].name, .str l[j].text, .int .i64 l[j].n]]) (dtok (XS ++ [AVal.agg [.int .i64 l[j].kind, .str l[j].name, .str l[j].text, .int .i64 l[j].n]]).length 0)), (4, .str (want ++ lineB l[j])), (5, .bool true), (6, .int .i64 ((j + 1 : Nat) : Int))] ⟨rfl, rfl, rfl, rfl, add1 (by omega), trivial⟩ (ihd (j + 1) _ (XS ++ [AVal.agg [.int .i64 l[j].kind, .str l[j].name, .str l[j].text, .int .i64 l[j].n]]) (want ++ lineB l[j]) true (by omega) (by omega) hX2 (by rw [hall2, ← hK, hr]; rfl) (fun _ => by rw [hfl2, hW rfl]) (by rw [List.length_append]; omega))
  exact inv_of [(0, .lst (l.map StepA.av) .none), (3, .lst [] .nil), (4, .str []), (5, .bool true), (6, .int .i64 0)] ⟨rfl, rfl, rfl, rfl, rfl, trivial⟩ (key _ 0 _ [] [] true rfl (by omega) rfl rfl (fun _ => rfl) (by simp))

end Go.Ag

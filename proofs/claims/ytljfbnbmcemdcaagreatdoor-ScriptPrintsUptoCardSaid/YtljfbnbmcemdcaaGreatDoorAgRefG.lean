/- Package cupelref05: Parse, ExprOf. -/
import Derived.Test.YtljfbnbmcemdcaaGreatDoorAgRefD
set_option linter.unusedVariables false
namespace Go.Ag
open Go

variable {T : Tab} {L : Lnk}

/-! the tokens of a text -/
theorem subA_len (src : Bytes) (i j : Nat) : (subA src i j).length ≤ src.length := by
  simp only [subA, List.length_drop, List.length_take]; omega
theorem lexStep_small (src : Bytes) (k : Nat) (c : UInt8) : (lexStep src k c).2.1.length ≤ 1 ∧ (lexStep src k c).2.2.length ≤ 1 ∧ ∀ t ∈ (lexStep src k c).2.1, t.text.length ≤ src.length + 2 := by
  have h := subA_len src
  unfold lexStep
  repeat' split
  all_goals
    refine ⟨by simp, by simp, fun t ht => ?_⟩
    simp only [List.mem_cons, List.not_mem_nil, or_false] at ht
  all_goals first
    | (cases ht; done)
    | (subst ht; first | (exact Nat.le_trans (h _ _) (by omega)) | simp)
theorem lexGo_small (src : Bytes) : ∀ (n k : Nat) (l : List TokA) (d : List DiagA) (b : Nat), l.length ≤ b → d.length ≤ b → (∀ t ∈ l, t.text.length ≤ src.length + 2) →
    (lexGo src n k l d).1.length ≤ b + n ∧ (lexGo src n k l d).2.length ≤ b + n ∧ ∀ t ∈ (lexGo src n k l d).1, t.text.length ≤ src.length + 2
  | 0, k, l, d, b, h1, h2, h3 => ⟨h1, h2, h3⟩
  | n + 1, k, l, d, b, h1, h2, h3 => by
    rw [lexGo]
    split
    · rename_i c hc
      obtain ⟨e1, e2, e3⟩ := lexStep_small src k c
      obtain ⟨k1, k2, k3⟩ := lexGo_small src n (lexStep src k c).1 (l ++ (lexStep src k c).2.1) (d ++ (lexStep src k c).2.2) (b + 1) (by rw [List.length_append]; omega) (by rw [List.length_append]; omega) (fun t ht => by
        rcases List.mem_append.1 ht with ht | ht
        · exact h3 t ht
        · exact e3 t ht)
      exact ⟨by omega, by omega, k3⟩
    · exact ⟨by show l.length ≤ _; omega, by show d.length ≤ _; omega, h3⟩

theorem start_ok (src : Bytes) (hs : src.length ≤ 2 ^ 32) : (startR src).ok ∧ (startR src).toks.length ≤ src.length + 1 ∧ (startR src).diags.length ≤ src.length := by
  obtain ⟨k1, k2, k3⟩ := lexGo_small src src.length 0 [] [] 0 (by simp) (by simp) (fun t ht => by cases ht)
  have e1 : (startR src).toks = (lexGo src src.length 0 [] []).1 ++ [⟨6, src.length, []⟩] := rfl
  have e2 : (startR src).diags = (lexGo src src.length 0 [] []).2 := rfl
  have e3 : (startR src).i = 0 := rfl
  generalize lexGo src src.length 0 [] [] = g at k1 k2 k3 e1 e2
  refine ⟨⟨?_, fun j t hj hk => ?_, ?_, fun t ht => ?_, ?_⟩, ?_, ?_⟩
  · rw [e1, e3]; simp
  · rw [e1] at hj ⊢
    rw [List.length_append]
    rcases Nat.lt_or_ge j g.1.length with h | h
    · simp; omega
    · rw [List.getElem?_append_right h] at hj
      cases hjj : j - g.1.length with
      | zero => rw [hjj] at hj; simp at hj; rw [← hj] at hk; simp at hk
      | succ m => rw [hjj] at hj; simp at hj
  · rw [e1]; simp; omega
  · rw [e1] at ht
    rcases List.mem_append.1 ht with ht | ht
    · have := k3 t ht; omega
    · simp only [List.mem_singleton] at ht; subst ht; simp
  · unfold RS.pot; rw [e1, e2, e3]; simp; split <;> omega
  · rw [e1]; simp; omega
  · rw [e2]; omega

structure PFns (T : Tab) : Prop extends RFns T where
  h39 : T.has 39 c_39
  h58 : T.has 58 c_58
  h79 : T.has 79 c_79
  h80 : T.has 80 c_80
  h81 : T.has 81 c_81
  h82 : T.has 82 c_82
  h24 : T.has 24 c_24
  h26 : T.has 26 c_26

theorem low_of (src : Bytes) : Low 1 (.agg [.lst ((lexA src).1.map TokA.av) .none, .int .i64 0, .lst ((lexA src).2.map DiagA.av) (dtok (lexA src).2.length 0), .bool false]) :=
  .agg _ (LowL.at ⟨low_toks _ _ _ trivial, .int _ _, low_diags _ _ _ (dtok_low (by decide)), .bool _, trivial⟩)
theorem PFns.of (F : PFns T) (src : Bytes) (hs : src.length ≤ 2 ^ 32) {H : Heap} {K KP : AVal → Heap → Prop} (J : Heap) (hH : H = .dead :: J)
    (hk : K (.agg [.lst ((lexA src).1.map TokA.av) .none, .int .i64 0, .lst ((lexA src).2.map DiagA.av) (dtok (lexA src).2.length 0), .bool false]) (dobj (lexA src).2.length 127 :: J)) : ACalls T.L 39 [.str src] H (contR K KP) := by
  subst hH
  exact (ACalls.at1 (of_spec F.h39 F.h58 F.h79 F.h80 F.h81 F.h82 src hs) (low1 (.str _)) trivial (low_of src) (dobj_low _ _ _) J).mono fun r H' ⟨e1, e2⟩ => by subst e1 e2; exact hk

/-! ExprOf -/
def exprFuel (src : Bytes) : Nat := 6 * (startR src).rem + 8
def exprOfR (src : Bytes) : EA × Bool :=
  if (exprR (exprFuel src) 1 (startR src)).2.bad || ((exprR (exprFuel src) 1 (startR src)).2.tok.kind != 6 || decide (((exprR (exprFuel src) 1 (startR src)).2.diags.length : Int) > 0)) then (zeroE, false)
  else ((exprR (exprFuel src) 1 (startR src)).1, true)

theorem exprOf_spec (F : PFns T) (src : Bytes) (hs : src.length ≤ 2 ^ 32) : Pure T.L 26 [.str src] (.tup [(exprOfR src).1.av, .bool (exprOfR src).2]) := by
  refine Pure.runD 1 (low1 (.str _)) (.tup _ (LowL.at ⟨low_ea _ _, .bool _, trivial⟩)) (acallsG F.h26 (by simp [c_26]) ?_)
  have hR := exprOfR.eq_1 src
  generalize exprOfR src = R at hR ⊢
  conv => whnf
  refine F.of src hs _ rfl ?_
  conv => whnf
  have hok := (start_ok src hs).1
  have hq := (ex_all F.toRFns (exprFuel src)).expr 1 (startR src) hok (by omega) (Nat.le_refl _)
  have hle := (le_exprs (exprFuel src)).expr 1 (startR src) hok
  obtain ⟨q, hqe⟩ : ∃ q, exprR (exprFuel src) 1 (startR src) = q := ⟨_, rfl⟩
  rw [hqe] at hq hle hR
  obtain ⟨⟨a1, a2, a3, a4, a5, a6, a7⟩, s⟩ := q
  dsimp only at hq hle hR
  have hs' := hok.of hle
  refine hq.to2 (low1 (.int _ _)) (low_ea _ _) _ _ rfl ?_
  conv => whnf
  have e0 : (s.diags.map DiagA.av).length = s.diags.length := by simp
  cases hb : s.bad
  · conv => whnf
    refine step_tok hs' ?_
    conv => whnf
    refine ⟨Nat.zero_le _, ?_⟩
    conv => whnf
    cases hk : (s.tok.kind != 6)
    · conv => whnf
      rw [e0]
      cases hd : decide (((s.diags.length : Nat) : Int) > 0)
      · rw [hb, hk, hd] at hR
        subst hR
        conv => whnf
        exact ret_weak (Weak.tup ⟨weak_ea _ _ _ _ _ _ _ _ _ _, Weak.refl _, trivial⟩)
      · rw [hb, hk, hd] at hR
        subst hR
        conv => whnf
        exact ret_weak (Weak.tup ⟨weak_zeroE, Weak.refl _, trivial⟩)
    · rw [hb, hk] at hR
      subst hR
      conv => whnf
      exact ret_weak (Weak.tup ⟨weak_zeroE, Weak.refl _, trivial⟩)
  · rw [hb] at hR
    subst hR
    conv => whnf
    exact ret_weak (Weak.tup ⟨weak_zeroE, Weak.refl _, trivial⟩)

/-! Parse -/
def skipR : Nat → RS → RS
  | 0, s => s
  | n + 1, s => if (s.tok.kind != 6 && !isR s kSemi) = true then skipR n { s with i := s.i + 1 } else s
def againR (s : RS) : RS := skipR s.rem { s with bad := false }
def semiR (s : RS) : RS := if isR s kSemi then { s with i := s.i + 1 } else s
def parseGo (n : Nat) : Nat → List DeclA → RS → List DeclA × RS
  | 0, l, s => (l, s)
  | k + 1, l, s => if (s.tok.kind != 6) = true then
      (if (declR n s).2.bad = true then parseGo n k l (semiR (againR (declR n s).2)) else parseGo n k (l ++ [(declR n s).1]) (declR n s).2)
    else (l, s)
def parse05R (src : Bytes) : List DeclA × RS := parseGo (exprFuel src) (startR src).rem [] (startR src)

/-- Ok, with room for so many more words. -/
structure RS.okN (s : RS) (b : Nat) : Prop where
  lt : s.i < s.toks.length
  more : ∀ j t, s.toks[j]? = some t → t.kind ≠ 6 → j + 1 < s.toks.length
  len : s.toks.length ≤ 2 ^ 33
  txt : ∀ t ∈ s.toks, t.text.length ≤ 2 ^ 40
  room : s.pot + b ≤ 2 ^ 35
theorem RS.okN.ok {s : RS} {b : Nat} (h : s.okN b) : s.ok := ⟨h.lt, h.more, h.len, h.txt, by have := h.room; omega⟩
theorem RS.okN.of {s s' : RS} {b : Nat} (hs : s.okN b) (h : s.le s') : s'.okN b := ⟨by rw [h.toks]; exact h.lt, by rw [h.toks]; exact hs.more, by rw [h.toks]; exact hs.len, by rw [h.toks]; exact hs.txt, by have := h.pot; have := hs.room; omega⟩
theorem RS.okN.mono {s : RS} {b c : Nat} (h : s.okN b) (hc : c ≤ b) : s.okN c := ⟨h.lt, h.more, h.len, h.txt, by have := h.room; omega⟩
theorem RS.okN.good {s : RS} {b : Nat} (h : s.okN (b + 1)) : ({ s with bad := false } : RS).okN b := ⟨h.lt, h.more, h.len, h.txt, by
  have := h.room
  unfold RS.pot at *
  simp only
  split at this <;> simp <;> omega⟩

theorem skip_le : ∀ (n : Nat) (s : RS), s.ok → s.le (skipR n s)
  | 0, s, h => RS.le.refl h
  | n + 1, s, h => by
    rw [skipR]
    split
    · rename_i hk
      have h1 := next_le h (by simp at hk; exact hk.1)
      exact h1.trans (skip_le n _ (h.of h1))
    · exact RS.le.refl h
theorem semi_le {s : RS} (h : s.ok) : s.le (semiR s) := by
  unfold semiR
  split
  · rename_i hi; exact next_le h (is_kind hi).1
  · exact RS.le.refl h

/-- A declaration takes a token, or its reader stands where it stood and has given up. -/
theorem decl_moves {n : Nat} {s : RS} (hs : s.ok) (hb : s.bad = false) : s.i < (declR n s).2.i ∨ declR n s = (⟨0, 0, [], [], []⟩, giveR s 2) := by
  have tk := fun (s : RS) (h : s.ok) (w : Bytes) => take_le h w
  have hE : ∀ (t : TokA) (ts : List TA) (s : RS), s.ok → s.le (declE n t ts s).2 := fun t ts s hs => by
    have k1 := tk s hs kEq
    have k2 := k1.trans ((le_exprs n).expr 1 _ (hs.of k1))
    exact k2.trans (tk _ (hs.of k2) kSemi)
  have first : ∀ (w : Bytes) (r : RS), isR s w = true → (takeR s w).le r → s.i < r.i := fun w r h1 h2 => by
    have := h2.i
    rw [take_yes h1] at this
    simp only at this
    omega
  unfold declR
  split
  · rename_i h
    have k1 := hs.of (tk s hs kUse)
    have k2 := name_le k1
    exact .inl (first _ _ h (k2.trans (tk _ (k1.of k2) kSemi)))
  · split
    · rename_i h
      have k1 := hs.of (tk s hs kTypeW)
      have k2 := name_le k1
      have k3 := k2.trans (tk _ (k1.of k2) kEq)
      have k4 := k3.trans ((le_types n).1 1 _ (k1.of k3))
      exact .inl (first _ _ h (k4.trans (tk _ (k1.of k4) kSemi)))
    · split
      · rename_i h
        have k1 := hs.of (tk s hs kLet)
        have k2 := name_le k1
        refine .inl (first _ _ h ?_)
        unfold declL
        split
        · have k3 := k2.trans (tk _ (k1.of k2) kColon)
          have k4 := k3.trans ((le_types n).1 1 _ (k1.of k3))
          exact k4.trans (hE _ _ _ (k1.of k4))
        · exact k2.trans (hE _ _ _ (k1.of k2))
      · exact .inr rfl

theorem skip_moves {s : RS} (h : s.ok) (hb : s.bad = false) (hk : s.tok.kind ≠ 6) : s.i < (semiR (skipR s.rem s)).i := by
  have hr : 0 < s.rem := by have := h.lt; unfold RS.rem; omega
  obtain ⟨m, hm⟩ : ∃ m, s.rem = m + 1 := ⟨s.rem - 1, by omega⟩
  rw [hm, skipR]
  cases hi : isR s kSemi
  · rw [if_pos (by simp [hk])]
    have h1 := next_le h hk
    have h2 := skip_le m _ (h.of h1)
    have h3 := semi_le ((h.of h1).of h2)
    have := (h2.trans h3).i
    simp only at this
    omega
  · rw [if_neg (by simp)]
    unfold semiR
    rw [if_pos hi]
    simp

theorem round_rem {n : Nat} {s : RS} {b : Nat} (hs : s.okN (b + 1)) (hb : s.bad = false) (hk : s.tok.kind ≠ 6) :
    ((declR n s).2.bad = false → (declR n s).2.okN b ∧ (declR n s).2.rem + 1 ≤ s.rem) ∧
    ((declR n s).2.bad = true → (semiR (againR (declR n s).2)).okN b ∧ (semiR (againR (declR n s).2)).rem + 1 ≤ s.rem ∧ (semiR (againR (declR n s).2)).bad = false) := by
  have hle := decl_le (n := n) hs.ok
  have hmv := decl_moves (n := n) hs.ok hb
  have hok := hs.of hle
  refine ⟨fun h => ⟨hok.mono (by omega), ?_⟩, fun h => ?_⟩
  · rcases hmv with h1 | h1
    · have := hle.lt
      unfold RS.rem; rw [hle.toks]; omega
    · rw [h1] at h; rw [give_bad] at h; cases h
  · generalize hr : (declR n s).2 = r at hle hmv hok h ⊢
    have g1 := hok.good
    have e1 : againR r = skipR ({ r with bad := false } : RS).rem { r with bad := false } := rfl
    have l1 := skip_le ({ r with bad := false } : RS).rem { r with bad := false } g1.ok
    have l2 := l1.trans (semi_le (g1.ok.of l1))
    rw [← e1] at l2
    refine ⟨g1.of l2, ?_, ?_⟩
    · have key : s.i < (semiR (againR r)).i := by
        rcases hmv with h1 | h1
        · have := l2.i; simp only at this; omega
        · have hri : r.i = s.i ∧ r.toks = s.toks := by
            have : r = giveR s 2 := by rw [← hr, h1]
            rw [this]; unfold giveR; rw [hb]; exact ⟨rfl, rfl⟩
          have := skip_moves g1.ok rfl (by
            show ({ r with bad := false } : RS).tok.kind ≠ 6
            unfold RS.tok
            simp only
            rw [hri.1, hri.2]
            exact hk)
          rw [← e1] at this
          simp only at this
          omega
      have hlt := l2.lt
      simp only at hlt
      have ht := l2.toks
      simp only at ht
      unfold RS.rem
      rw [ht, hle.toks]
      rw [hle.toks] at hlt
      omega
    · have hskip : ∀ (n : Nat) (s : RS), (skipR n s).bad = s.bad := fun n => by
        induction n with
        | zero => intro s; rfl
        | succ n ih => intro s; rw [skipR]; split
                       · rw [ih]
                       · rfl
      have : (semiR (againR r)).bad = (againR r).bad := by unfold semiR; split <;> rfl
      rw [this, e1, hskip]

theorem sized_decls (l : List DeclA) : Sized 5 (l.map DeclA.av) := fun x hx => by
  obtain ⟨t, _, rfl⟩ := List.mem_map.1 hx
  exact ⟨rfl, rfl⟩
theorem low_decls (n : Nat) (l : List DeclA) : ∀ x ∈ l.map DeclA.av, Low n x := fun x hx => by
  obtain ⟨t, _, rfl⟩ := List.mem_map.1 hx
  exact low_decl n t

theorem parse05_spec (F : PFns T) (src : Bytes) (hs : src.length ≤ 2 ^ 32) : Pure T.L 24 [.str src] (.tup [.lst ((parse05R src).1.map DeclA.av) .none, .lst ((parse05R src).2.diags.map DiagA.av) .none]) := by
  refine Pure.runD 2 (low1 (.str _)) (.tup _ (LowL.at ⟨.lst _ _ trivial (low_decls _ _), low_diags _ _ _ trivial, trivial⟩)) (acallsG F.h24 (by simp [c_24]) ?_)
  obtain ⟨hok, hlen, hdl⟩ := start_ok src hs
  obtain ⟨R, hR⟩ : ∃ R, parse05R src = R := ⟨_, rfl⟩
  rw [hR]
  unfold parse05R at hR
  have hn : 6 * (startR src).rem + 8 ≤ exprFuel src := Nat.le_refl _
  generalize exprFuel src = n at hR hn
  conv => whnf
  refine F.of src hs _ rfl ?_
  conv => whnf
  intro I hI hG
  have key : ∀ (k : Nat) (s : RS) (l : List DeclA) (XS : List AVal) (e : Env), s.okN k → s.bad = false → s.rem ≤ k → 6 * s.rem + 8 ≤ n → l.length + s.rem ≤ 2 ^ 34 → R = parseGo n k l s → XS = l.map DeclA.av →
      I (setL e [(4, .ptr 2 0), (5, .lst XS (dtok XS.length 1))]) [dobjR s, dobj XS.length 67, robj s] := by
    intro k
    induction k with
    | zero =>
      intro s l XS e hk hb hr
      have := hk.lt
      unfold RS.rem at hr
      omega
    | succ k ih =>
      intro s l XS e hsN hb hr hfu hll hv hX
      have hs1 := hsN.ok
      rw [parseGo] at hv
      have next : ∀ (s2 : RS) (l2 : List DeclA) (YS : List AVal) (e2 : Env) (H2 : Heap), s2.okN k → s2.bad = false → s2.rem ≤ k → 6 * s2.rem + 8 ≤ n → l2.length + s2.rem ≤ 2 ^ 34 → R = parseGo n k l2 s2 → YS = l2.map DeclA.av →
          H2.take 3 = [dobjR s2, dobj YS.length 67, robj s2] → envHas e2 [(4, .ptr 2 0), (5, .lst YS (dtok YS.length 1))] → I e2 H2 := fun s2 l2 YS e2 H2 c1 c2 c3 c4 c5 c6 c7 c8 c9 =>
        hG.keep [(4, .ptr 2 0), (5, .lst YS (dtok YS.length 1))] [dobjR s2, dobj YS.length 67, robj s2] (Nat.le_refl 3) c8 c9
          ⟨.ptr _ _ (by decide : 2 < 3), .lst _ _ (dtok_low (by decide : 1 < 3)) (by rw [c7]; exact low_decls _ _), trivial⟩
          ⟨dobj_low _ _ _, dobj_low _ _ _, low_robjN (n := 3) (by decide) _, trivial⟩ (ih s2 l2 YS _ c1 c2 c3 c4 c5 c6 c7)
      apply hI
      conv => whnf
      refine step_tok hs1 ?_
      conv => whnf
      refine ⟨Nat.zero_le _, ?_⟩
      conv => whnf
      cases hk6 : (s.tok.kind != 6)
      · rw [if_neg (by simp [hk6])] at hv
        subst hv hX
        conv => whnf
        exact ret_weak (Weak.tup ⟨Weak.tok _ _, Weak.tok _ _, trivial⟩)
      · rw [if_pos hk6] at hv
        conv => whnf
        have hd := decl_spec F.toRFns n s hs1 hfu
        have hle := decl_le (n := n) hs1
        have hrr := round_rem (n := n) hsN hb (by simpa using hk6)
        obtain ⟨q, hq⟩ : ∃ q, declR n s = q := ⟨_, rfl⟩
        rw [hq] at hd hle hrr hv
        have hs2 := hs1.of hle
        refine hd.to2 low0 (low_decl _ _) _ _ rfl ?_
        conv => whnf
        cases hb2 : q.2.bad
        · rw [if_neg (by simp [hb2])] at hv
          obtain ⟨k1, k2⟩ := hrr.1 hb2
          conv => whnf
          refine app_slot (id := 1) (by rw [hX]; exact sized_decls l) (sized_one rfl) (by rw [hX]; simp; omega) (by rw [hX]; simp; omega) (by simp) rfl ?_
          conv => whnf
          exact next q.2 (l ++ [q.1]) _ _ _ k1 hb2 (by omega) (by omega) (by simp; omega) hv (by rw [hX]; simp; rfl) rfl ⟨rfl, rfl, trivial⟩
        · rw [if_pos hb2] at hv
          obtain ⟨k1, k2, k3⟩ := hrr.2 hb2
          have hgood := ((hsN.of hle).good).ok
          obtain ⟨g, hg⟩ : ∃ g : RS, ({ q.2 with bad := false } : RS) = g := ⟨_, rfl⟩
          have hag : againR q.2 = skipR g.rem g := by rw [← hg]; rfl
          rw [hag] at hv k1 k2 k3
          rw [hg] at hgood
          have hgb : g.bad = false := by rw [← hg]
          conv => whnf
          intro I2 hI2 hG2
          have key2 : ∀ (m : Nat) (s' : RS) (e : Env), s'.ok → s'.bad = false → s'.rem ≤ m → skipR g.rem g = skipR m s' →
              I2 (setL e [(4, .ptr 2 0), (5, .lst XS (dtok XS.length 1))]) [dobjR s', dobj XS.length 67, robj s', .cells [.int .i64 q.1.kind, .int .i64 q.1.at_, .str q.1.name, .lst (TA.avs q.1.ts) .none, .lst (EA.avs q.1.es) .none] 67] := by
            intro m
            induction m with
            | zero =>
              intro s' e h1 _ h2
              have := h1.lt
              unfold RS.rem at h2
              omega
            | succ m ihm =>
              intro s' e h1 hb' h2 h3
              rw [skipR] at h3
              apply hI2
              conv => whnf
              refine step_tok h1 ?_
              conv => whnf
              refine ⟨Nat.zero_le _, ?_⟩
              conv => whnf
              have fin : skipR g.rem g = s' → ∀ (e2 : Env) (H2 : Heap), envHas e2 [(4, .ptr 2 0), (5, .lst XS (dtok XS.length 1))] → H2.take 3 = [dobjR (semiR s'), dobj XS.length 67, robj (semiR s')] → I e2 H2 := fun h4 e2 H2 he hH => by
                rw [h4] at hv k1 k2 k3
                exact next (semiR s') l XS e2 H2 k1 k3 (by omega) (by omega) (by omega) hv hX hH he
              cases hk : (s'.tok.kind != 6)
              · rw [if_neg (by simp [hk])] at h3
                have hsemi : isR s' kSemi = false := by
                  cases h : isR s' kSemi
                  · rfl
                  · exact absurd (is_kind h).1 (by simpa using hk)
                conv => whnf
                refine (is_spec F.h41 s' h1 kSemi).to2 (low1 (.str _)) (.bool _) _ _ rfl ?_
                rw [hsemi]
                conv => whnf
                have hse : semiR s' = s' := by unfold semiR; rw [if_neg (by simp [hsemi])]
                exact fin h3 _ _ ⟨rfl, rfl, trivial⟩ (by rw [hse]; rfl)
              · conv => whnf
                refine (is_spec F.h41 s' h1 kSemi).to2 (low1 (.str _)) (.bool _) _ _ rfl ?_
                cases hi : isR s' kSemi
                · rw [if_pos (by simp [hk, hi])] at h3
                  conv => whnf
                  rw [addN h1.i]
                  have hle2 := next_le h1 (by simpa using hk)
                  have hlt := hle2.lt
                  simp only at hlt
                  exact inv_of [(4, .ptr 2 0), (5, .lst XS (dtok XS.length 1))] ⟨rfl, rfl, trivial⟩ (ihm { s' with i := s'.i + 1 } _ (h1.of hle2) hb' (by unfold RS.rem at *; simp only; omega) h3)
                · rw [if_neg (by simp [hi])] at h3
                  conv => whnf
                  refine (is_spec F.h41 s' h1 kSemi).to2 (low1 (.str _)) (.bool _) _ _ rfl ?_
                  rw [hi]
                  conv => whnf
                  rw [addN h1.i]
                  have hse : semiR s' = { s' with i := s'.i + 1 } := by unfold semiR; rw [if_pos hi]
                  exact fin h3 _ _ ⟨rfl, rfl, trivial⟩ (by rw [hse]; rfl)
          subst hg
          exact inv_of [(4, .ptr 2 0), (5, .lst XS (dtok XS.length 1))] ⟨rfl, rfl, trivial⟩ (key2 _ _ _ hgood hgb (Nat.le_refl _) rfl)
  have hrem : (startR src).rem ≤ src.length + 1 := by unfold RS.rem; omega
  refine inv_of [(4, .ptr 2 0), (5, .lst [] .nil)] ⟨rfl, rfl, trivial⟩ (key (startR src).rem (startR src) [] [] _ ⟨hok.lt, hok.more, hok.len, hok.txt, ?_⟩ rfl (Nat.le_refl _) hn (by simp; omega) hR.symm rfl)
  have hp : (startR src).pot ≤ (startR src).diags.length + 2 * (startR src).toks.length + 1 := by
    unfold RS.pot
    split <;> omega
  omega

end Go.Ag

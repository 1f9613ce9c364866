/- Package cupelref04: Lex. -/
import Derived.Test.YtljfbnbmcemdcaaGreatDoorAgRef4
set_option linter.unusedVariables false
namespace Go.Ag
open Go

variable {T : Tab} {L : Lnk}

structure TokA where
  kind : Int
  at_ : Int
  text : Bytes
  deriving DecidableEq
structure DiagA where
  at_ : Int
  code : Int
  name : Bytes
  deriving DecidableEq
def TokA.av (t : TokA) : AVal := .agg [.int .i64 t.kind, .int .i64 t.at_, .str t.text]
def DiagA.av (t : DiagA) : AVal := .agg [.int .i64 t.at_, .int .i64 t.code, .str t.name]

def wsL : Bytes := [32, 9, 10, 13]
def digitsL : Bytes := [48, 49, 50, 51, 52, 53, 54, 55, 56, 57]
def smallL : Bytes := [97, 98, 99, 100, 101, 102, 103, 104, 105, 106, 107, 108, 109, 110, 111, 112, 113, 114, 115, 116, 117, 118, 119, 120, 121, 122, 95]
def alnumL : Bytes := [97, 98, 99, 100, 101, 102, 103, 104, 105, 106, 107, 108, 109, 110, 111, 112, 113, 114, 115, 116, 117, 118, 119, 120, 121, 122, 95, 48, 49, 50, 51, 52, 53, 54, 55, 56, 57]
def signsL : Bytes := [61, 58, 59, 44, 46, 40, 41, 123, 125, 124, 63]
def subA (src : Bytes) (i j : Nat) : Bytes := (src.take j).drop i

/-- The next token, or what is told: where it goes on, and what is added. -/
def lexStep (src : Bytes) (at_ : Nat) (c : UInt8) : Nat × List TokA × List DiagA :=
  if inA c wsL = true then (at_ + 1, [], [])
  else if (c == 35) = true then (untilA src at_ [10], [], [])
  else if inA c smallL = true then (whileA src at_ alnumL, [⟨if wordA (subA src at_ (whileA src at_ alnumL)) = true then 2 else 1, at_, subA src at_ (whileA src at_ alnumL)⟩], [])
  else if inA c digitsL = true then
    if 18 < whileA src at_ digitsL - at_ then (whileA src at_ digitsL, [⟨3, at_, [48]⟩], [⟨at_, 13, []⟩]) else (whileA src at_ digitsL, [⟨3, at_, subA src at_ (whileA src at_ digitsL)⟩], [])
  else if (c == 34) = true then
    if src[untilA src (at_ + 1) [34, 10]]? = some 34 then (untilA src (at_ + 1) [34, 10] + 1, [⟨4, at_, subA src (at_ + 1) (untilA src (at_ + 1) [34, 10])⟩], [])
    else (untilA src (at_ + 1) [34, 10], [], [⟨at_, 1, []⟩])
  else if (c == 45) = true ∧ src[at_ + 1]? = some 62 then (at_ + 2, [⟨5, at_, [45, 62]⟩], [])
  else if inA c signsL = true then (at_ + 1, [⟨5, at_, subA src at_ (at_ + 1)⟩], [])
  else (at_ + 1, [], [⟨at_, 1, []⟩])

def lexGo (src : Bytes) : Nat → Nat → List TokA → List DiagA → List TokA × List DiagA
  | 0, _, l, d => (l, d)
  | n + 1, k, l, d => match src[k]? with
    | some c => lexGo src n (lexStep src k c).1 (l ++ (lexStep src k c).2.1) (d ++ (lexStep src k c).2.2)
    | none => (l, d)

def lexA (src : Bytes) : List TokA × List DiagA :=
  ((lexGo src src.length 0 [] []).1 ++ [⟨6, src.length, []⟩], (lexGo src src.length 0 [] []).2)

theorem sized_toks (l : List TokA) : Sized 3 (l.map TokA.av) := fun x hx => by
  obtain ⟨t, _, rfl⟩ := List.mem_map.1 hx
  exact ⟨rfl, rfl⟩
theorem sized_diags (l : List DiagA) : Sized 3 (l.map DiagA.av) := fun x hx => by
  obtain ⟨t, _, rfl⟩ := List.mem_map.1 hx
  exact ⟨rfl, rfl⟩
theorem sized_one {k : Nat} {x : AVal} (h : okB k x = true) : Sized k [x] := fun y hy => by simp only [List.mem_singleton] at hy; subst hy; exact okB_ok h

theorem alnum_of {c : UInt8} (h : inA c smallL = true) : inA c alnumL = true := by
  unfold inA at h ⊢
  rw [show alnumL = smallL ++ digitsL from rfl, List.any_append, h]; rfl

theorem low_tok (n : Nat) (x : TokA) : Low n x.av := .agg _ fun y hy => by simp only [List.mem_cons, List.not_mem_nil, or_false] at hy; rcases hy with rfl | rfl | rfl <;> constructor
theorem low_diag (n : Nat) (x : DiagA) : Low n x.av := .agg _ fun y hy => by simp only [List.mem_cons, List.not_mem_nil, or_false] at hy; rcases hy with rfl | rfl | rfl <;> constructor
theorem low_toks (n : Nat) (l : List TokA) (tk : Tok) (h : tokLow n tk) : Low n (.lst (l.map TokA.av) tk) := .lst _ _ h fun x hx => by
  obtain ⟨t, _, rfl⟩ := List.mem_map.1 hx
  exact low_tok n t
theorem low_diags (n : Nat) (l : List DiagA) (tk : Tok) (h : tokLow n tk) : Low n (.lst (l.map DiagA.av) tk) := .lst _ _ h fun x hx => by
  obtain ⟨t, _, rfl⟩ := List.mem_map.1 hx
  exact low_diag n t

theorem lex_spec (h58 : T.has 58 c_58) (h79 : T.has 79 c_79) (h80 : T.has 80 c_80) (h81 : T.has 81 c_81) (h82 : T.has 82 c_82) (src : Bytes) (hs : src.length ≤ 2 ^ 32) :
    ACalls T.L 58 [.str src] [.dead] fun r H' => r = .ret (.tup [.lst ((lexA src).1.map TokA.av) .none, .lst ((lexA src).2.map DiagA.av) (dtok (lexA src).2.length 0)]) ∧ H' = [dobj (lexA src).2.length 127] := by
  have main : ACalls T.L 58 [.str src] ([AObj.dead] ++ List.replicate 1 .dead) fun r H1 => ∃ x J, r = .ret x ∧ Weak T.L x (.tup [.lst ((lexA src).1.map TokA.av) .none, .lst ((lexA src).2.map DiagA.av) (dtok (lexA src).2.length 0)]) ∧ H1 = dobj (lexA src).2.length 127 :: J := by
    refine acallsG h58 (by simp [c_58]) ?_
    have fin : ∀ (l : List TokA) (d : List DiagA) (xs ds : List AVal), xs = l.map TokA.av → ds = d.map DiagA.av → lexGo src src.length 0 [] [] = (l, d) → ∃ x J, ARet.ret (.tup [.lst (xs ++ [AVal.agg [.int .i64 6, .int .i64 (src.length : Nat), .str []]]) (dtok (xs ++ [AVal.agg [.int .i64 6, .int .i64 (src.length : Nat), .str []]]).length 1), .lst ds (dtok ds.length 0)]) = .ret x ∧
        Weak T.L x (.tup [.lst ((lexA src).1.map TokA.av) .none, .lst ((lexA src).2.map DiagA.av) (dtok (lexA src).2.length 0)]) ∧
        [dobj ds.length 127, dobj (xs ++ [AVal.agg [.int .i64 6, .int .i64 (src.length : Nat), .str []]]).length 86] = dobj (lexA src).2.length 127 :: J := by
      intro l d xs ds hx hd hgo
      have hla : lexA src = (l ++ [⟨6, src.length, []⟩], d) := by unfold lexA; rw [hgo]
      rw [hla]
      subst hx hd
      refine ⟨_, [_], rfl, Weak.tup ⟨?_, ?_, trivial⟩, by rw [List.length_map]⟩
      · rw [List.map_append]; exact Weak.tok _ _
      · rw [List.length_map]; exact Weak.refl _
    conv => whnf
    intro I hI hG
    have key : ∀ (n k : Nat) (e : Env) (l : List TokA) (d : List DiagA) (xs ds : List AVal), src.length - k ≤ n → k ≤ src.length → xs = l.map TokA.av → ds = d.map DiagA.av → xs.length ≤ k → ds.length ≤ k → lexGo src src.length 0 [] [] = lexGo src n k l d →
        I (setL e [(0, .str src), (4, .lst xs (dtok xs.length 1)), (5, .lst ds (dtok ds.length 0)), (6, .int .i64 k)]) [dobj ds.length 127, dobj xs.length 86] := by
      intro n
      induction n with
      | zero =>
        intro k e l d xs ds hn hk hx hd hxl hdl hgo
        obtain rfl : k = src.length := by omega
        apply hI
        conv => whnf
        rw [lt_false (Nat.le_refl _)]
        conv => whnf
        have hsz : Sized 3 xs := by rw [hx]; exact sized_toks l
        refine app_slot (ys := [.agg [.int .i64 6, .int .i64 (src.length : Nat), .str []]]) hsz (sized_one rfl) (by simp; omega) (by simp; omega) (by simp) rfl ?_
        conv => whnf
        exact fin l d xs ds hx hd (by rw [hgo]; rfl)
      | succ n ih =>
        intro k e l d xs ds hn hk hx hd hxl hdl hgo
        rcases Nat.lt_or_ge k src.length with hlt | hge
        · apply hI
          conv => whnf
          rw [lt_true hlt]
          conv => whnf
          refine step_at hlt ?_
          conv => whnf
          have hgo' : lexGo src src.length 0 [] [] = lexGo src n (lexStep src k src[k]).1 (l ++ (lexStep src k src[k]).2.1) (d ++ (lexStep src k src[k]).2.2) := by
            rw [hgo, lexGo, List.getElem?_eq_getElem hlt]
          clear hgo
          have hsl : Sized 3 xs := by rw [hx]; exact sized_toks l
          have hsd : Sized 3 ds := by rw [hd]; exact sized_diags d
          have next : ∀ (k' : Nat) (ts : List TokA) (us : List DiagA) (e' : Env), lexStep src k src[k] = (k', ts, us) → k < k' → k' ≤ src.length → ts.length ≤ 1 → us.length ≤ 1 →
              envHas e' [(0, .str src), (4, .lst (xs ++ ts.map TokA.av) (dtok (xs ++ ts.map TokA.av).length 1)), (5, .lst (ds ++ us.map DiagA.av) (dtok (ds ++ us.map DiagA.av).length 0)), (6, .int .i64 (k' : Nat))] →
              I e' [dobj (ds ++ us.map DiagA.av).length 127, dobj (xs ++ ts.map TokA.av).length 86] := fun k' ts us e' hst hk1 hk2 ht hu he => by
            rw [hst] at hgo'
            refine inv_of _ he (ih k' _ (l ++ ts) (d ++ us) _ _ (by omega) hk2 ?_ ?_ ?_ ?_ hgo')
            · rw [hx, List.map_append]
            · rw [hd, List.map_append]
            · simp; omega
            · simp; omega
          have same : ∀ (k' : Nat) (e' : Env), lexStep src k src[k] = (k', [], []) → k < k' → k' ≤ src.length →
              envHas e' [(0, .str src), (4, .lst xs (dtok xs.length 1)), (5, .lst ds (dtok ds.length 0)), (6, .int .i64 (k' : Nat))] →
              I e' [dobj ds.length 127, dobj xs.length 86] := fun k' e' hst hk1 hk2 he => by
            have := next k' [] [] e' hst hk1 hk2 (by simp) (by simp) (by simpa using he)
            simpa using this
          have nextT : ∀ (k' : Nat) (tk : TokA) (e' : Env), lexStep src k src[k] = (k', [tk], []) → k < k' → k' ≤ src.length →
              envHas e' [(0, .str src), (4, .lst (xs ++ [tk.av]) (dtok (xs ++ [tk.av]).length 1)), (5, .lst ds (dtok ds.length 0)), (6, .int .i64 (k' : Nat))] →
              I e' [dobj ds.length 127, dobj (xs ++ [tk.av]).length 86] := fun k' tk e' hst hk1 hk2 he => by
            have := next k' [tk] [] e' hst hk1 hk2 (by simp) (by simp) (by rw [List.map_nil, List.append_nil]; exact he)
            rw [List.map_nil, List.append_nil] at this
            exact this
          have nextD : ∀ (k' : Nat) (u : DiagA) (e' : Env), lexStep src k src[k] = (k', [], [u]) → k < k' → k' ≤ src.length →
              envHas e' [(0, .str src), (4, .lst xs (dtok xs.length 1)), (5, .lst (ds ++ [u.av]) (dtok (ds ++ [u.av]).length 0)), (6, .int .i64 (k' : Nat))] →
              I e' [dobj (ds ++ [u.av]).length 127, dobj xs.length 86] := fun k' u e' hst hk1 hk2 he => by
            have := next k' [] [u] e' hst hk1 hk2 (by simp) (by simp) (by rw [List.map_nil, List.append_nil]; exact he)
            rw [List.map_nil, List.append_nil] at this
            exact this
          have nextTD : ∀ (k' : Nat) (tk : TokA) (u : DiagA) (e' : Env), lexStep src k src[k] = (k', [tk], [u]) → k < k' → k' ≤ src.length →
              envHas e' [(0, .str src), (4, .lst (xs ++ [tk.av]) (dtok (xs ++ [tk.av]).length 1)), (5, .lst (ds ++ [u.av]) (dtok (ds ++ [u.av]).length 0)), (6, .int .i64 (k' : Nat))] →
              I e' [dobj (ds ++ [u.av]).length 127, dobj (xs ++ [tk.av]).length 86] := fun k' tk u e' hst hk1 hk2 he => next k' [tk] [u] e' hst hk1 hk2 (by simp) (by simp) he
          clear next
          have appT : ∀ {y : AVal} {tk0 : Tok} {H : Heap} {K : AVal → Heap → Prop}, okB 3 y = true → H[1]? = some (dobj xs.length 86) → K (.lst (xs ++ [y]) (dtok (xs ++ [y]).length 1)) (H.set 1 (dobj (xs ++ [y]).length 86)) → appK 3 32 86 (.lst xs (dtok xs.length 1)) (.lst [y] tk0) H K :=
            fun h1 h2 h3 => app_slot hsl (sized_one h1) (by simp; omega) (by simp; omega) (by simp) h2 h3
          have appD : ∀ {y : AVal} {tk0 : Tok} {H : Heap} {K : AVal → Heap → Prop}, okB 3 y = true → H[0]? = some (dobj ds.length 127) → K (.lst (ds ++ [y]) (dtok (ds ++ [y]).length 0)) (H.set 0 (dobj (ds ++ [y]).length 127)) → appK 3 32 127 (.lst ds (dtok ds.length 0)) (.lst [y] tk0) H K :=
            fun h1 h2 h3 => app_slot hsd (sized_one h1) (by simp; omega) (by simp; omega) (by simp) h2 h3
          obtain ⟨c, hc⟩ : ∃ c, src[k] = c := ⟨_, rfl⟩
          rw [hc] at hgo' nextT nextD nextTD same ⊢
          have a1 : IntKind.i64.wrap ((k : Int) + 1) = ((k + 1 : Nat) : Int) := by rw [IntWalk.i64_in _ (by omega)]; omega
          rw [a1]
          refine (in_spec h79 c wsL (by decide)).to ?_
          cases h1 : inA c wsL
          · conv => whnf
            rw [show ((c.toNat : Int) == 35) = (c == 35) from u8_beq c 35]
            cases h2 : (c == 35)
            · conv => whnf
              refine (in_spec h79 c smallL (by decide)).to ?_
              cases h3 : inA c smallL
              · conv => whnf
                refine (in_spec h79 c digitsL (by decide)).to ?_
                cases h4 : inA c digitsL
                · conv => whnf
                  rw [show ((c.toNat : Int) == 34) = (c == 34) from u8_beq c 34]
                  cases h5 : (c == 34)
                  · conv => whnf
                    rw [show ((c.toNat : Int) == 45) = (c == 45) from u8_beq c 45]
                    have sign : ¬ ((c == 45) = true ∧ src[k + 1]? = some 62) → lexStep src k c = if inA c signsL = true then (k + 1, [⟨5, k, subA src k (k + 1)⟩], []) else (k + 1, [], [⟨k, 1, []⟩]) := fun h6 => by
                      rw [lexStep, if_neg (by simp [h1]), if_neg (by simp [h2]), if_neg (by simp [h3]), if_neg (by simp [h4]), if_neg (by simp [h5]), if_neg h6]
                    have rest : lexStep src k c = (if inA c signsL = true then (k + 1, [⟨5, k, subA src k (k + 1)⟩], []) else (k + 1, [], [⟨k, 1, []⟩])) → ∀ b, inA c signsL = b → lexStep src k c = match b with
        | true => (k + 1, [⟨5, k, subA src k (k + 1)⟩], [])
        | false => (k + 1, [], [⟨k, 1, []⟩]) := fun h b hb => by
                      rw [h]
                      cases b
                      · rw [if_neg (by simp [hb])]
                      · rw [if_pos hb]
                    cases h6 : (c == 45)
                    · have hst := rest (sign (by simp [h6]))
                      conv => whnf
                      refine (in_spec h79 c signsL (by decide)).to ?_
                      cases h7 : inA c signsL
                      · conv => whnf
                        refine appD rfl rfl ?_
                        conv => whnf
                        exact nextD _ ⟨k, 1, _⟩ _ (hst _ h7) (by omega) hlt ⟨rfl, rfl, rfl, rfl, trivial⟩
                      · conv => whnf
                        refine ⟨Nat.le_succ k, hlt, ?_⟩
                        conv => whnf
                        refine appT rfl rfl ?_
                        conv => whnf
                        exact nextT _ ⟨5, k, _⟩ _ (hst _ h7) (by omega) hlt ⟨rfl, rfl, rfl, rfl, trivial⟩
                    · conv => whnf
                      rcases Nat.lt_or_ge (k + 1) src.length with h8 | h8
                      · rw [lt_true h8]
                        conv => whnf
                        refine step_at h8 ?_
                        conv => whnf
                        rw [show ((src[k + 1].toNat : Int) == 62) = (src[k + 1] == 62) from u8_beq src[k + 1] 62]
                        cases h9 : (src[k + 1] == 62)
                        · have hst := rest (sign (by rw [List.getElem?_eq_getElem h8]; intro e0; simp [Option.some.inj e0.2] at h9))
                          conv => whnf
                          refine (in_spec h79 c signsL (by decide)).to ?_
                          cases h7 : inA c signsL
                          · conv => whnf
                            refine appD rfl rfl ?_
                            conv => whnf
                            exact nextD _ ⟨k, 1, _⟩ _ (hst _ h7) (by omega) hlt ⟨rfl, rfl, rfl, rfl, trivial⟩
                          · conv => whnf
                            refine ⟨Nat.le_succ k, hlt, ?_⟩
                            conv => whnf
                            refine appT rfl rfl ?_
                            conv => whnf
                            exact nextT _ ⟨5, k, _⟩ _ (hst _ h7) (by omega) hlt ⟨rfl, rfl, rfl, rfl, trivial⟩
                        · have hst : lexStep src k c = (k + 2, [⟨5, k, [45, 62]⟩], []) := by
                            rw [lexStep, if_neg (by simp [h1]), if_neg (by simp [h2]), if_neg (by simp [h3]), if_neg (by simp [h4]), if_neg (by simp [h5]), if_pos ⟨h6, by rw [List.getElem?_eq_getElem h8, show src[k + 1] = 62 from by simpa using h9]⟩]
                          conv => whnf
                          refine appT rfl rfl ?_
                          conv => whnf
                          exact nextT _ ⟨5, k, _⟩ _ hst (by omega) h8 ⟨rfl, rfl, rfl, add1 (by omega), trivial⟩
                      · have hst := rest (sign (by rw [List.getElem?_eq_none h8]; simp))
                        rw [lt_false h8]
                        conv => whnf
                        refine (in_spec h79 c signsL (by decide)).to ?_
                        cases h7 : inA c signsL
                        · conv => whnf
                          refine appD rfl rfl ?_
                          conv => whnf
                          exact nextD _ ⟨k, 1, _⟩ _ (hst _ h7) (by omega) hlt ⟨rfl, rfl, rfl, rfl, trivial⟩
                        · conv => whnf
                          refine ⟨Nat.le_succ k, hlt, ?_⟩
                          conv => whnf
                          refine appT rfl rfl ?_
                          conv => whnf
                          exact nextT _ ⟨5, k, _⟩ _ (hst _ h7) (by omega) hlt ⟨rfl, rfl, rfl, rfl, trivial⟩
                  · conv => whnf
                    rw [a1]
                    have w : k + 1 ≤ untilA src (k + 1) [34, 10] ∧ untilA src (k + 1) [34, 10] ≤ src.length := span_le hlt
                    refine (until_spec h79 h80 src [34, 10] (k + 1) (by omega) (by decide) hlt).to ?_
                    have hst : lexStep src k c = if src[untilA src (k + 1) [34, 10]]? = some 34 then (untilA src (k + 1) [34, 10] + 1, [⟨4, k, subA src (k + 1) (untilA src (k + 1) [34, 10])⟩], []) else (untilA src (k + 1) [34, 10], [], [⟨k, 1, []⟩]) := by
                      rw [lexStep, if_neg (by simp [h1]), if_neg (by simp [h2]), if_neg (by simp [h3]), if_neg (by simp [h4]), if_pos h5]
                    generalize untilA src (k + 1) [34, 10] = E at w hst ⊢
                    conv => whnf
                    rcases Nat.lt_or_ge E src.length with hE | hE
                    · rw [lt_true hE]
                      conv => whnf
                      refine step_at hE ?_
                      conv => whnf
                      rw [show ((src[E].toNat : Int) == 34) = (src[E] == 34) from u8_beq src[E] 34]
                      rw [List.getElem?_eq_getElem hE] at hst
                      cases h6 : (src[E] == 34)
                      · rw [if_neg (by intro e0; simp [Option.some.inj e0] at h6)] at hst
                        conv => whnf
                        refine appD rfl rfl ?_
                        conv => whnf
                        exact nextD _ ⟨k, 1, _⟩ _ hst (by omega) w.2 ⟨rfl, rfl, rfl, rfl, trivial⟩
                      · rw [if_pos (by rw [show src[E] = 34 from by simpa using h6])] at hst
                        conv => whnf
                        rw [a1]
                        refine ⟨w.1, w.2, ?_⟩
                        conv => whnf
                        refine appT rfl rfl ?_
                        conv => whnf
                        exact nextT _ ⟨4, k, _⟩ _ hst (by omega) hE ⟨rfl, rfl, rfl, add1 (by omega), trivial⟩
                    · rw [lt_false hE]
                      rw [List.getElem?_eq_none hE, if_neg (by simp)] at hst
                      conv => whnf
                      refine appD rfl rfl ?_
                      conv => whnf
                      exact nextD _ ⟨k, 1, _⟩ _ hst (by omega) w.2 ⟨rfl, rfl, rfl, rfl, trivial⟩
                · conv => whnf
                  have w : k ≤ whileA src k digitsL ∧ whileA src k digitsL ≤ src.length := span_le hk
                  have w2 : k < whileA src k digitsL := span_lt (p := (inA · digitsL)) (src := src) hlt (by rw [hc]; exact h4)
                  refine (while_spec h79 h81 src digitsL k (by omega) (by decide) hk).to ?_
                  conv => whnf
                  refine ⟨w.1, w.2, ?_⟩
                  conv => whnf
                  have hst : lexStep src k c = if 18 < whileA src k digitsL - k then (whileA src k digitsL, [⟨3, k, [48]⟩], [⟨k, 13, []⟩]) else (whileA src k digitsL, [⟨3, k, subA src k (whileA src k digitsL)⟩], []) := by
                    rw [lexStep, if_neg (by simp [h1]), if_neg (by simp [h2]), if_neg (by simp [h3]), if_pos h4]
                  rw [show IntKind.i64.wrap (((whileA src k digitsL : Nat) : Int) - (k : Int)) = ((whileA src k digitsL - k : Nat) : Int) from by rw [IntWalk.i64_in _ (by omega)]; omega]
                  cases h5 : decide (((whileA src k digitsL - k : Nat) : Int) > 18)
                  · rw [if_neg (by simp at h5; omega)] at hst
                    conv => whnf
                    refine appT rfl rfl ?_
                    conv => whnf
                    exact nextT _ ⟨3, k, _⟩ _ hst w2 w.2 ⟨rfl, rfl, rfl, rfl, trivial⟩
                  · rw [if_pos (by simp at h5; omega)] at hst
                    conv => whnf
                    refine appD rfl rfl ?_
                    conv => whnf
                    refine appT rfl rfl ?_
                    conv => whnf
                    exact nextTD _ ⟨3, k, _⟩ ⟨k, 13, _⟩ _ hst w2 w.2 ⟨rfl, rfl, rfl, rfl, trivial⟩
              · conv => whnf
                have w : k ≤ whileA src k alnumL ∧ whileA src k alnumL ≤ src.length := span_le hk
                have w2 : k < whileA src k alnumL := span_lt (p := (inA · alnumL)) (src := src) hlt (by rw [hc]; exact alnum_of h3)
                refine (while_spec h79 h81 src alnumL k (by omega) (by decide) hk).to ?_
                conv => whnf
                refine ⟨w.1, w.2, ?_⟩
                conv => whnf
                refine (word_spec h82 _).to ?_
                have hst : ∀ b, wordA (subA src k (whileA src k alnumL)) = b → lexStep src k c = (whileA src k alnumL, [⟨if b = true then 2 else 1, k, subA src k (whileA src k alnumL)⟩], []) := fun b hb => by
                  rw [lexStep, if_neg (by simp [h1]), if_neg (by simp [h2]), if_pos h3, hb]
                cases hb : wordA (List.drop ((k : Nat) : Int).toNat (List.take ((whileA src k alnumL : Nat) : Int).toNat src))
                · conv => whnf
                  refine ⟨w.1, w.2, ?_⟩
                  conv => whnf
                  refine appT rfl rfl ?_
                  conv => whnf
                  exact nextT _ ⟨1, k, _⟩ _ (hst _ hb) w2 w.2 ⟨rfl, rfl, rfl, rfl, trivial⟩
                · conv => whnf
                  refine ⟨w.1, w.2, ?_⟩
                  conv => whnf
                  refine appT rfl rfl ?_
                  conv => whnf
                  exact nextT _ ⟨2, k, _⟩ _ (hst _ hb) w2 w.2 ⟨rfl, rfl, rfl, rfl, trivial⟩
            · conv => whnf
              have w : k ≤ untilA src k [10] ∧ untilA src k [10] ≤ src.length := span_le hk
              refine (until_spec h79 h80 src [10] k (by omega) (by decide) hk).to ?_
              conv => whnf
              refine same (untilA src k [10]) _ (by rw [lexStep, if_neg (by simp [h1]), if_pos h2]) ?_ w.2 ⟨rfl, rfl, rfl, rfl, trivial⟩
              exact span_lt (p := fun c => !inA c [10]) hlt (by rw [hc, show c = 35 from by simpa using h2]; decide)
          · conv => whnf
            refine same (k + 1) _ (by rw [lexStep, if_pos h1]) (by omega) hlt ⟨rfl, rfl, rfl, add1 (by omega), trivial⟩
        · obtain rfl : k = src.length := by omega
          apply hI
          conv => whnf
          rw [lt_false (Nat.le_refl _)]
          conv => whnf
          have hsz : Sized 3 xs := by rw [hx]; exact sized_toks l
          refine app_slot (ys := [.agg [.int .i64 6, .int .i64 (src.length : Nat), .str []]]) hsz (sized_one rfl) (by simp; omega) (by simp; omega) (by simp) rfl ?_
          conv => whnf
          exact fin l d xs ds hx hd (by rw [hgo, lexGo, List.getElem?_eq_none (Nat.le_refl _)])
    exact inv_of [(0, .str src), (4, .lst [] .nil), (5, .lst [] .nil), (6, .int .i64 0)] ⟨rfl, rfl, rfl, rfl, trivial⟩ (key src.length 0 _ [] [] [] [] (by omega) (by omega) rfl rfl (by simp) (by simp) rfl)
  refine (ACalls.gcW (Q := fun z H' => z = (.tup [.lst ((lexA src).1.map TokA.av) .none, .lst ((lexA src).2.map DiagA.av) (dtok (lexA src).2.length 0)]) ∧ H' = [dobj (lexA src).2.length 127])
    ((ACalls.deads 1 main).mono fun r H1 ⟨x, J, e1, e2, e3⟩ => ?_)).mono fun r H1 ⟨z, e1, _, e2, e3⟩ => ⟨by rw [e1, e2], e3⟩
  refine ⟨x, _, [dobj (lexA src).2.length 127], [dobj (lexA src).2.length 127], J, by rw [e3]; rfl, e1, e2, ?_, rfl, rfl, fun i o o' h1 h2 => by rw [h1] at h2; cases h2; exact WeakO.refl o, fun o ho => ?_, rfl, rfl⟩
  · refine .tup _ fun x hx => ?_
    simp only [List.mem_cons, List.not_mem_nil, or_false] at hx
    rcases hx with rfl | rfl
    · exact low_toks _ _ _ trivial
    · exact low_diags _ _ _ (dtok_low (by simp))
  · simp only [List.mem_singleton] at ho; subst ho; exact dobj_low _ _ _

end Go.Ag

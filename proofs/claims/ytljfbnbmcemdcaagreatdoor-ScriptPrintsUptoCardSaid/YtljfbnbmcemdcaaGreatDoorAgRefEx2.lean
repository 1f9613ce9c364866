/- Package cupelref05: basic, Expr. -/
import Derived.Test.YtljfbnbmcemdcaaGreatDoorAgRefEx
set_option linter.unusedVariables false
namespace Go.Ag
open Go

variable {T : Tab} {L : Lnk}

structure ExSpec (T : Tab) (n : Nat) : Prop where
  expr : ∀ (d : Nat) (s : RS), s.ok → d ≤ 65 → 6 * s.rem + 8 ≤ n → RC T.L 42 [.int .i64 d] s (exprR n d s).1.av (exprR n d s).2
  basic : ∀ (d : Nat) (s : RS), s.ok → d ≤ 64 → 6 * s.rem + 7 ≤ n → RC T.L 63 [.int .i64 d] s (basicR n d s).1.av (basicR n d s).2

theorem weak_ea (k p : Int) (nm : Bytes) (m : Int) (ns : List Bytes) (l : List EA) (ts : List TA) (t1 t2 t3 : Tok) :
    Weak L (.agg [.int .i64 k, .int .i64 p, .str nm, .int .i64 m, .lst (strA ns) t1, .lst (EA.avs l) t2, .lst (TA.avs ts) t3]) (EA.mk k p nm m ns l ts).av := by
  rw [EA.av]
  exact Weak.agg ⟨Weak.refl _, Weak.refl _, Weak.refl _, Weak.refl _, Weak.tok _ _, Weak.tok _ _, Weak.tok _ _, trivial⟩
theorem weak_zeroE : Weak L (.agg [.int .i64 0, .int .i64 0, .str [], .int .i64 0, .lst [] .nil, .lst [] .nil, .lst [] .nil]) zeroE.av := weak_ea 0 0 [] 0 [] [] [] _ _ _

theorem tok_txt {s : RS} (h : s.ok) : s.tok.text.length ≤ 2 ^ 40 := h.txt _ (List.mem_of_getElem? (tok_at h))

theorem basic_step (F : RFns T) (n : Nat) (ih : ∀ m, m ≤ n → ExSpec T m) (d : Nat) (s : RS) (hs : s.ok) (hd : d ≤ 64) (hf : 6 * s.rem + 7 ≤ n + 1) : RC T.L 63 [.int .i64 d] s (basicR (n + 1) d s).1.av (basicR (n + 1) d s).2 := by
  refine RC.of 2 (low_ea _ _) (acallsG F.h63 (by simp [c_63]) ?_)
  obtain ⟨R, hR⟩ : ∃ R, basicR (n + 1) d s = R := ⟨_, rfl⟩
  rw [hR]
  rw [basicR] at hR
  conv => whnf
  cases hb : s.bad
  · rw [if_neg (by simp [hb])] at hR
    conv => whnf
    refine step_tok hs ?_
    conv => whnf
    cases hk1 : (s.tok.kind == 1)
    · rw [if_neg (by simpa using hk1)] at hR
      conv => whnf
      cases hk3 : (s.tok.kind == 3)
      · rw [if_neg (by simpa using hk3)] at hR
        conv => whnf
        cases hk4 : (s.tok.kind == 4)
        · rw [if_neg (by simpa using hk4)] at hR
          conv => whnf
          refine F.is hs kTrue _ rfl ?_
          cases h0 : isR s kTrue
          · rw [if_neg (by simp [h0])] at hR
            conv => whnf
            refine F.is hs kFalse _ rfl ?_
            cases h1 : isR s kFalse
            · rw [if_neg (by simp [h1])] at hR
              conv => whnf
              refine F.is hs kLb _ rfl ?_
              cases h2 : isR s kLb
              · rw [if_neg (by simp [h2])] at hR
                conv => whnf
                refine F.take hs kLp _ rfl ?_
                have k1 := take_le hs kLp
                have hs1 := hs.of k1
                have hr : (takeR s kLp).bad = false → (takeR s kLp).rem + 1 = s.rem := fun h => take_rem hs (take_bad h).2.1
                generalize takeR s kLp = s1 at k1 hs1 hr hR ⊢
                conv => whnf
                cases hb1 : s1.bad
                · rw [if_neg (by simp [hb1])] at hR
                  have hr := hr hb1
                  conv => whnf
                  rw [addN (by omega)]
                  have hq := (ih n (Nat.le_refl _)).expr (d + 1) s1 hs1 (by omega) (by omega)
                  have hle := (le_exprs n).expr (d + 1) s1 hs1
                  have hre := hle.rem
                  obtain ⟨q, hqe⟩ : ∃ q, exprR n (d + 1) s1 = q := ⟨_, rfl⟩
                  rw [hqe] at hq hle hR hre
                  obtain ⟨m, rfl⟩ : ∃ m, n = m + 1 := ⟨n - 1, by omega⟩
                  rw [asR] at hR
                  obtain ⟨⟨k', p', nm', m', ns', l', ts'⟩, s2⟩ := q
                  dsimp only at hq hle hR hre
                  refine hq.to (low1 (.int _ _)) (low_ea _ _) _ rfl ?_
                  have hs2 := hs1.of hle
                  conv => whnf
                  refine F.is hs2 kColon _ rfl ?_
                  cases h3 : isR s2 kColon
                  · rw [if_neg (by simp [h3])] at hR
                    subst hR
                    conv => whnf
                    refine F.take hs2 kRp _ rfl ?_
                    conv => whnf
                    exact ⟨_, rfl, weak_ea _ _ _ _ _ _ _ _ _ _, rfl⟩
                  · rw [if_pos h3] at hR
                    conv => whnf
                    refine F.take hs2 kColon _ rfl ?_
                    have k3 := take_le hs2 kColon
                    have hs3 := hs2.of k3
                    have hr3 := k3.rem
                    generalize takeR s2 kColon = s3 at k3 hs3 hR hr3 ⊢
                    conv => whnf
                    rw [addN (by omega)]
                    have hq := (ty_all F m).type (d + 1) s3 hs3 (by omega) (by omega)
                    have hle := (le_types m).1 (d + 1) s3 hs3
                    obtain ⟨q, hqe⟩ : ∃ q, typeR m (d + 1) s3 = q := ⟨_, rfl⟩
                    rw [hqe] at hq hle hR
                    obtain ⟨⟨k4, nm4, ns4, l4⟩, s4⟩ := q
                    dsimp only at hq hle hR
                    subst hR
                    refine hq.to (low1 (.int _ _)) (low_ta _ _) _ rfl ?_
                    conv => whnf
                    refine F.take (hs3.of hle) kRp _ rfl ?_
                    conv => whnf
                    exact ⟨_, rfl, weak_ea 11 s.tok.at_ [] 0 [] [.mk k' p' nm' m' ns' l' ts'] [.mk k4 nm4 ns4 l4] _ _ _, rfl⟩
                · rw [if_pos hb1] at hR
                  subst hR
                  conv => whnf
                  exact ⟨_, rfl, weak_zeroE, rfl⟩
              · rw [if_pos h2] at hR
                conv => whnf
                refine F.take hs kLb _ rfl ?_
                have k1 := take_le hs kLb
                have hs1 := hs.of k1
                have hr := take_rem hs h2
                generalize takeR s kLb = s1 at k1 hs1 hr hR ⊢
                conv => whnf
                intro I hI hG
                have key : ∀ (m : Nat) (s' : RS) (names : List Bytes) (l : List EA) (XS YS : List AVal) (e : Env), m ≤ n → s'.ok → 6 * s'.rem + 8 ≤ m → l.length = names.length → names.length + s'.rem ≤ 2 ^ 34 → R = efieldsR m d s.tok.at_ names l s' → XS = strA names → YS = EA.avs l →
                    I (setL e [(0, .ptr 1 0), (1, .int .i64 d), (4, .ptr 4 0), (8, .ptr 6 0)]) [dobjR s', robj s', dobj XS.length 10, dobj YS.length 70, .cells [.int .i64 0, .int .i64 0, .str [], .int .i64 0, .lst [] .nil, .lst [] .nil, .lst [] .nil] 70,
                      .cells [.int .i64 s.tok.kind, .int .i64 s.tok.at_, .str s.tok.text] 86, .cells [.int .i64 5, .int .i64 s.tok.at_, .str [], .int .i64 0, .lst XS (dtok XS.length 2), .lst YS (dtok YS.length 3), .lst [] .nil] 70] := by
                  intro m
                  induction m with
                  | zero => intro s' names l XS YS e _ _ h; omega
                  | succ m ihm =>
                    intro s' names l XS YS e hm hs' hf' hl1 hl2 hv hX hY
                    rw [efieldsR] at hv
                    have next : ∀ (s2 : RS) (names2 : List Bytes) (l2 : List EA) (XS YS : List AVal) (e2 : Env) (H2 : Heap), s2.ok → 6 * s2.rem + 8 ≤ m → l2.length = names2.length → names2.length + s2.rem ≤ 2 ^ 34 → R = efieldsR m d s.tok.at_ names2 l2 s2 → XS = strA names2 → YS = EA.avs l2 →
                        H2.take 7 = [dobjR s2, robj s2, dobj XS.length 10, dobj YS.length 70, .cells [.int .i64 0, .int .i64 0, .str [], .int .i64 0, .lst [] .nil, .lst [] .nil, .lst [] .nil] 70,
                          .cells [.int .i64 s.tok.kind, .int .i64 s.tok.at_, .str s.tok.text] 86, .cells [.int .i64 5, .int .i64 s.tok.at_, .str [], .int .i64 0, .lst XS (dtok XS.length 2), .lst YS (dtok YS.length 3), .lst [] .nil] 70] →
                        envHas e2 [(0, .ptr 1 0), (1, .int .i64 d), (4, .ptr 4 0), (8, .ptr 6 0)] → I e2 H2 := fun s2 names2 l2 XS YS e2 H2 c1 c2 c3 c4 c5 c6 c7 c8 c9 =>
                      hG.keep [(0, .ptr 1 0), (1, .int .i64 d), (4, .ptr 4 0), (8, .ptr 6 0)] [dobjR s2, robj s2, dobj XS.length 10, dobj YS.length 70, .cells [.int .i64 0, .int .i64 0, .str [], .int .i64 0, .lst [] .nil, .lst [] .nil, .lst [] .nil] 70,
                          .cells [.int .i64 s.tok.kind, .int .i64 s.tok.at_, .str s.tok.text] 86, .cells [.int .i64 5, .int .i64 s.tok.at_, .str [], .int .i64 0, .lst XS (dtok XS.length 2), .lst YS (dtok YS.length 3), .lst [] .nil] 70] (Nat.le_refl 7) c8 c9
                        ⟨.ptr _ _ (by decide : 1 < 7), .int _ _, .ptr _ _ (by decide : 4 < 7), .ptr _ _ (by decide : 6 < 7), trivial⟩
                        ⟨dobj_low _ _ _, low_robjN (n := 7) (by decide) _, dobj_low _ _ _, dobj_low _ _ _, lowC ⟨.int _ _, .int _ _, .str _, .int _ _, .lst _ _ trivial low0, .lst _ _ trivial low0, .lst _ _ trivial low0, trivial⟩, lowC ⟨.int _ _, .int _ _, .str _, trivial⟩,
                          lowC ⟨.int _ _, .int _ _, .str _, .int _ _, by rw [c6]; exact low_strs' _ _ _ (dtok_low (by decide : 2 < 7)), .lst _ _ (dtok_low (by decide : 3 < 7)) (by rw [c7]; exact low_eas _ _), .lst _ _ trivial low0, trivial⟩, trivial⟩
                        (ihm s2 names2 l2 XS YS _ (by omega) c1 c2 c3 c4 c5 c6 c7)
                    apply hI
                    conv => whnf
                    cases hb' : s'.bad
                    · conv => whnf
                      refine F.is hs' kRb _ rfl ?_
                      cases hi' : isR s' kRb
                      · rw [if_pos (by simp [hb', hi'])] at hv
                        conv => whnf
                        refine F.name hs' _ rfl ?_
                        have n1 := name_le hs'
                        have n3 := twice_le hs' kEq
                        obtain ⟨p, hp⟩ : ∃ p, nameR s' = p := ⟨_, rfl⟩
                        rw [hp] at hv n1 n3 ⊢
                        have hs2 := hs'.of n1
                        conv => whnf
                        refine F.take hs2 kEq _ rfl ?_
                        have n4 := take_le hs2 kEq
                        obtain ⟨s3, hs3e⟩ : ∃ s3, takeR p.2 kEq = s3 := ⟨_, rfl⟩
                        rw [hs3e] at hv n3 n4 ⊢
                        have hs3 := hs2.of n4
                        conv => whnf
                        cases hb3 : s3.bad
                        · rw [if_neg (by simp [hb3])] at hv
                          have hr3 : s3.rem + 2 = s'.rem := by
                            rw [← hs3e, ← hp]
                            exact two_rem hs' kEq (by rw [hp, hs3e]; exact hb3)
                          have hle3 := n3 hb3
                          have hX1 : XS.length = names.length := by rw [hX, strA_len]
                          have hY1 : YS.length = names.length := by rw [hY, eas_len, hl1]
                          have sX : Sized 1 XS := by rw [hX]; exact sized_strA _
                          have sY : Sized 7 YS := by rw [hY]; exact sized_eas _
                          conv => whnf
                          refine ((has_spec F.h85 names p.1.text (by omega) .none trivial).weak (args := [.lst XS (dtok XS.length 2), .str p.1.text]) ⟨by rw [hX]; exact Weak.tok _ _, Weak.refl _, trivial⟩).to ?_
                          cases ht : hasR names p.1.text
                          case' true =>
                            rw [if_pos ht] at hv
                            conv => whnf
                            refine app_diag hs3 ⟨p.1.at_, 4, p.1.text⟩ rfl rfl ?_
                            conv => whnf
                            rw [addN (by omega)]
                            have hs4 := hs'.of hle3
                            have hq := (ih m (by omega)).expr (d + 1) (twiceR s3 p.1) hs4 (by omega) (by show 6 * s3.rem + 8 ≤ m; omega)
                            have hle4 := (le_exprs m).expr (d + 1) (twiceR s3 p.1) hs4
                            have hre4 := hle4.rem
                            have hre5 : (twiceR s3 p.1).rem = s3.rem := rfl
                            obtain ⟨q, hqe⟩ : ∃ q, exprR m (d + 1) (twiceR s3 p.1) = q := ⟨_, rfl⟩
                            rw [hqe] at hv hq hle4 hre4
                            obtain ⟨⟨k', p', nm', m', ns', l', ts'⟩, s5⟩ := q
                            dsimp only at hv hq hle4 hre4
                            refine hq.to (low1 (.int _ _)) (low_ea _ _) _ rfl ?_
                            have hs5 := hs4.of hle4
                            have hv2 : R = efieldsR m d s.tok.at_ names l (commaR s5) := hv
                            have hl3 : l.length = names.length := hl1
                            have hl4 : names.length ≤ names.length + 1 := by omega
                            have hX2 : XS = strA names := hX
                            have hY2 : YS = EA.avs l := hY
                            conv => whnf
                          case' false =>
                            rw [if_neg (by simp [ht])] at hv
                            conv => whnf
                            rw [addN (by omega)]
                            have hq := (ih m (by omega)).expr (d + 1) s3 hs3 (by omega) (by omega)
                            have hle4 := (le_exprs m).expr (d + 1) s3 hs3
                            have hre4 := hle4.rem
                            obtain ⟨q, hqe⟩ : ∃ q, exprR m (d + 1) s3 = q := ⟨_, rfl⟩
                            rw [hqe] at hv hq hle4 hre4
                            obtain ⟨⟨k', p', nm', m', ns', l', ts'⟩, s5⟩ := q
                            dsimp only at hv hq hle4 hre4
                            refine hq.to (low1 (.int _ _)) (low_ea _ _) _ rfl ?_
                            have hs5 := hs3.of hle4
                            conv => whnf
                            refine app_slot (id := 2) sX (sized_one rfl) (by rw [hX1]; simp; omega) (by rw [hX1]; simp; omega) (by simp) rfl ?_
                            conv => whnf
                            refine app_slot (id := 3) sY (sized_one rfl) (by rw [hY1]; simp; omega) (by rw [hY1]; simp; omega) (by simp) rfl ?_
                            have hv2 : R = efieldsR m d s.tok.at_ (names ++ [p.1.text]) (l ++ [.mk k' p' nm' m' ns' l' ts']) (commaR s5) := hv
                            have hl3 : (l ++ [EA.mk k' p' nm' m' ns' l' ts']).length = (names ++ [p.1.text]).length := by simp [hl1]
                            have hl4 : (names ++ [p.1.text]).length ≤ names.length + 1 := by simp
                            have hX2 : XS ++ [.str p.1.text] = strA (names ++ [p.1.text]) := by rw [hX]; simp [strA]
                            have hY2 : YS ++ [.agg [.int .i64 k', .int .i64 p', .str nm', .int .i64 m', .lst (strA ns') .none, .lst (EA.avs l') .none, .lst (TA.avs ts') .none]] = EA.avs (l ++ [.mk k' p' nm' m' ns' l' ts']) := by rw [hY, eas_append]; rfl
                            conv => whnf
                          all_goals
                            refine F.is hs5 kRb _ rfl ?_
                            have hc := commaR_eq s5
                            cases hi5 : isR s5 kRb
                            · rw [hi5, if_neg (by simp)] at hc
                              conv => whnf
                              refine F.take hs5 kComma _ rfl ?_
                              have n6 := take_le hs5 kComma
                              have hr6 := n6.rem
                              generalize takeR s5 kComma = s6 at n6 hc hr6 ⊢
                              have hs6 := hs5.of n6
                              conv => whnf
                              refine F.is hs6 kRb _ rfl ?_
                              cases hi6 : isR s6 kRb
                              · rw [hi6, if_neg (by simp)] at hc
                                rw [hc] at hv2
                                conv => whnf
                                exact next s6 _ _ _ _ _ _ hs6 (by omega) hl3 (by omega) hv2 hX2 hY2 rfl ⟨rfl, rfl, rfl, rfl, trivial⟩
                              · rw [hi6, if_pos rfl] at hc
                                rw [hc] at hv2
                                conv => whnf
                                refine F.give hs6 2 _ rfl ?_
                                conv => whnf
                                have hr7 := (give_le hs6 2).rem
                                exact next (giveR s6 2) _ _ _ _ _ _ (hs6.of (give_le hs6 2)) (by omega) hl3 (by omega) hv2 hX2 hY2 rfl ⟨rfl, rfl, rfl, rfl, trivial⟩
                            · rw [hi5, if_pos rfl] at hc
                              rw [hc] at hv2
                              conv => whnf
                              exact next s5 _ _ _ _ _ _ hs5 (by omega) hl3 (by omega) hv2 hX2 hY2 rfl ⟨rfl, rfl, rfl, rfl, trivial⟩
                        · rw [if_pos hb3] at hv
                          subst hv
                          conv => whnf
                          exact ⟨_, rfl, weak_zeroE, rfl⟩
                      · rw [if_neg (by simp [hi'])] at hv
                        subst hv
                        conv => whnf
                        refine F.take hs' kRb _ rfl ?_
                        conv => whnf
                        subst hX hY
                        exact ⟨_, rfl, weak_ea 5 _ [] 0 names l [] _ _ _, rfl⟩
                    · rw [if_neg (by simp [hb'])] at hv
                      subst hv
                      conv => whnf
                      refine F.take hs' kRb _ rfl ?_
                      conv => whnf
                      subst hX hY
                      exact ⟨_, rfl, weak_ea 5 _ [] 0 names l [] _ _ _, rfl⟩
                refine inv_of [(0, .ptr 1 0), (1, .int .i64 d), (4, .ptr 4 0), (8, .ptr 6 0)] ⟨rfl, rfl, rfl, rfl, trivial⟩ (key n s1 [] [] [] [] _ (Nat.le_refl _) hs1 (by omega) rfl ?_ hR.symm rfl rfl)
                have := hs.len
                unfold RS.rem at *
                simp
                omega
            · rw [if_pos h1] at hR
              subst hR
              conv => whnf
              refine F.take hs kFalse _ rfl ?_
              conv => whnf
              exact ⟨_, rfl, weak_ea 3 _ [] 0 [] [] [] _ _ _, rfl⟩
          · rw [if_pos h0] at hR
            subst hR
            conv => whnf
            refine F.take hs kTrue _ rfl ?_
            conv => whnf
            exact ⟨_, rfl, weak_ea 3 _ [] 1 [] [] [] _ _ _, rfl⟩
        · rw [if_pos (by simpa using hk4)] at hR
          subst hR
          conv => whnf
          rw [addN hs.i]
          exact ⟨_, rfl, weak_ea 2 _ _ 0 [] [] [] _ _ _, rfl⟩
      · rw [if_pos (by simpa using hk3)] at hR
        subst hR
        conv => whnf
        refine (number_spec F.h84 s.tok.text (by have := tok_txt hs; omega)).to ?_
        conv => whnf
        refine ⟨⟨rfl, rfl, trivial⟩, ?_⟩
        conv => whnf
        rw [addN hs.i]
        exact ⟨_, rfl, weak_ea 1 _ [] _ [] [] [] _ _ _, rfl⟩
    · rw [if_pos (by simpa using hk1)] at hR
      subst hR
      conv => whnf
      rw [addN hs.i]
      exact ⟨_, rfl, weak_ea 4 _ _ 0 [] [] [] _ _ _, rfl⟩
  · rw [if_pos hb] at hR
    subst hR
    conv => whnf
    exact ⟨_, rfl, weak_zeroE, rfl⟩

theorem name_rem {s : RS} (hs : s.ok) : (nameR s).2.rem ≤ s.rem := (name_le hs).rem

theorem expr_step (F : RFns T) (n : Nat) (ih : ∀ m, m ≤ n → ExSpec T m) (d : Nat) (s : RS) (hs : s.ok) (hd : d ≤ 65) (hf : 6 * s.rem + 8 ≤ n + 1) : RC T.L 42 [.int .i64 d] s (exprR (n + 1) d s).1.av (exprR (n + 1) d s).2 := by
  refine RC.of 0 (low_ea _ _) (acallsG F.h42 (by simp [c_42]) ?_)
  obtain ⟨R, hR⟩ : ∃ R, exprR (n + 1) d s = R := ⟨_, rfl⟩
  rw [hR]
  rw [exprR] at hR
  conv => whnf
  cases hdd : decide ((d : Int) > 64)
  · have hd64 : ¬ 64 < d := by simp at hdd; omega
    rw [show deepR d s = s from if_neg hd64] at hR
    conv => whnf
    cases hb : s.bad
    · rw [if_neg (by simp [hb])] at hR
      conv => whnf
      refine step_tok hs ?_
      conv => whnf
      refine ⟨by simp [AVal.cells], ?_⟩
      conv => whnf
      obtain ⟨m, rfl⟩ : ∃ m, n = m + 1 := ⟨n - 1, by omega⟩
      refine F.is hs kFun _ rfl ?_
      cases h0 : isR s kFun
      · rw [if_neg (by simp [h0])] at hR
        conv => whnf
        refine F.is hs kLet _ rfl ?_
        cases h1 : isR s kLet
        · rw [if_neg (by simp [h1])] at hR
          conv => whnf
          refine F.is hs kIf _ rfl ?_
          cases h2 : isR s kIf
          · rw [if_neg (by simp [h2])] at hR
            conv => whnf
            have hq := (ih (m + 1) (Nat.le_refl _)).basic d s hs (by omega) (by omega)
            have hle := (le_exprs (m + 1)).basic d s hs
            have hre := hle.rem
            obtain ⟨q, hqe⟩ : ∃ q, basicR (m + 1) d s = q := ⟨_, rfl⟩
            rw [hqe] at hq hle hR hre
            obtain ⟨⟨a1, a2, a3, a4, a5, a6, a7⟩, s1⟩ := q
            dsimp only at hq hle hR hre
            refine hq.to (low1 (.int _ _)) (low_ea _ _) _ rfl ?_
            have hs1 := hs.of hle
            conv => whnf
            intro I hI hG
            have key : ∀ (mm : Nat) (s' : RS) (k p : Int) (nm : Bytes) (v : Int) (ns : List Bytes) (l : List EA) (ts : List TA) (e : Env), mm ≤ m + 1 → s'.ok → 6 * s'.rem + 7 ≤ mm → R = postR mm d (.mk k p nm v ns l ts) s' →
                I (setL e [(0, .ptr 1 0), (1, .int .i64 d), (4, .ptr 2 0), (14, .ptr 3 0)]) [dobjR s', robj s', .cells [.int .i64 0, .int .i64 0, .str [], .int .i64 0, .lst [] .nil, .lst [] .nil, .lst [] .nil] 70,
                  .cells [.int .i64 k, .int .i64 p, .str nm, .int .i64 v, .lst (strA ns) .none, .lst (EA.avs l) .none, .lst (TA.avs ts) .none] 70] := by
              intro mm
              induction mm with
              | zero => intro s' k p nm v ns l ts e _ _ h; omega
              | succ mm ihm =>
                intro s' k p nm v ns l ts e hm hs' hf' hv
                rw [postR] at hv
                have next : ∀ (s2 : RS) (k p : Int) (nm : Bytes) (v : Int) (ns : List Bytes) (l : List EA) (ts : List TA) (t1 t2 t3 : Tok) (e2 : Env) (H2 : Heap), s2.ok → 6 * s2.rem + 7 ≤ mm → R = postR mm d (.mk k p nm v ns l ts) s2 →
                    H2.take 4 = [dobjR s2, robj s2, .cells [.int .i64 0, .int .i64 0, .str [], .int .i64 0, .lst [] .nil, .lst [] .nil, .lst [] .nil] 70,
                      .cells [.int .i64 k, .int .i64 p, .str nm, .int .i64 v, .lst (strA ns) t1, .lst (EA.avs l) t2, .lst (TA.avs ts) t3] 70] →
                    envHas e2 [(0, .ptr 1 0), (1, .int .i64 d), (4, .ptr 2 0), (14, .ptr 3 0)] → I e2 H2 := fun s2 k p nm v ns l ts t1 t2 t3 e2 H2 c1 c2 c3 c4 c5 =>
                  hG.nextS [(0, .ptr 1 0), (1, .int .i64 d), (4, .ptr 2 0), (14, .ptr 3 0)] [dobjR s2, robj s2, .cells [.int .i64 0, .int .i64 0, .str [], .int .i64 0, .lst [] .nil, .lst [] .nil, .lst [] .nil] 70,
                      .cells [.int .i64 k, .int .i64 p, .str nm, .int .i64 v, .lst (strA ns) .none, .lst (EA.avs l) .none, .lst (TA.avs ts) .none] 70]
                    [dobjR s2, robj s2, .cells [.int .i64 0, .int .i64 0, .str [], .int .i64 0, .lst [] .nil, .lst [] .nil, .lst [] .nil] 70,
                      .cells [.int .i64 k, .int .i64 p, .str nm, .int .i64 v, .lst (strA ns) t1, .lst (EA.avs l) t2, .lst (TA.avs ts) t3] 70] (H2.drop 4) (by conv => lhs; rw [← List.take_append_drop 4 H2, c4]) (Nat.le_refl 4)
                    ⟨WeakO.refl _, WeakO.refl _, WeakO.refl _, ⟨rfl, Weak.refl _, Weak.refl _, Weak.refl _, Weak.refl _, Weak.tok _ _, Weak.tok _ _, Weak.tok _ _, trivial⟩, trivial⟩
                    (slots_of c5 ⟨.ptr _ _ (by decide : 1 < 4), .int _ _, .ptr _ _ (by decide : 2 < 4), .ptr _ _ (by decide : 3 < 4), trivial⟩)
                    ⟨dobj_low _ _ _, low_robjN (n := 4) (by decide) _, lowC ⟨.int _ _, .int _ _, .str _, .int _ _, .lst _ _ trivial low0, .lst _ _ trivial low0, .lst _ _ trivial low0, trivial⟩,
                      lowC ⟨.int _ _, .int _ _, .str _, .int _ _, low_strs' _ _ _ trivial, .lst _ _ trivial (low_eas _ _), .lst _ _ trivial (low_tas _ _), trivial⟩, trivial⟩
                    (ihm s2 k p nm v ns l ts _ (by omega) c1 c2 c3)
                apply hI
                conv => whnf
                refine F.is hs' kLp _ rfl ?_
                cases h3 : isR s' kLp
                · rw [if_neg (by simp [h3])] at hv
                  conv => whnf
                  refine F.is hs' kDot _ rfl ?_
                  cases h4 : isR s' kDot
                  · rw [if_neg (by simp [h4])] at hv
                    subst hv
                    conv => whnf
                    exact ⟨_, rfl, weak_ea _ _ _ _ _ _ _ _ _ _, rfl⟩
                  · rw [if_pos h4] at hv
                    conv => whnf
                    refine step_tok hs' ?_
                    conv => whnf
                    refine ⟨by simp [AVal.cells], ?_⟩
                    conv => whnf
                    refine F.is hs' kLp _ rfl ?_
                    rw [h3]
                    conv => whnf
                    refine F.take hs' kDot _ rfl ?_
                    have k1 := take_le hs' kDot
                    have hr := take_rem hs' h4
                    generalize takeR s' kDot = s2 at k1 hr hv ⊢
                    have hs2 := hs'.of k1
                    conv => whnf
                    refine F.name hs2 _ rfl ?_
                    have n1 := name_le hs2
                    have hrn := n1.rem
                    obtain ⟨p', hp⟩ : ∃ p, nameR s2 = p := ⟨_, rfl⟩
                    rw [hp] at hv n1 hrn ⊢
                    have hs3 := hs2.of n1
                    conv => whnf
                    exact next p'.2 _ _ _ _ [] [.mk k p nm v ns l ts] [] _ _ _ _ _ hs3 (by omega) hv rfl ⟨rfl, rfl, rfl, rfl, trivial⟩
                · rw [if_pos h3] at hv
                  conv => whnf
                  refine step_tok hs' ?_
                  conv => whnf
                  refine ⟨by simp [AVal.cells], ?_⟩
                  conv => whnf
                  refine F.is hs' kLp _ rfl ?_
                  rw [h3]
                  conv => whnf
                  refine F.take hs' kLp _ rfl ?_
                  have k1 := take_le hs' kLp
                  have hr := take_rem hs' h3
                  generalize takeR s' kLp = s2 at k1 hr hv ⊢
                  have hs2 := hs'.of k1
                  conv => whnf
                  rw [addN (by omega)]
                  have hq := (ih mm (by omega)).expr (d + 1) s2 hs2 (by omega) (by omega)
                  have hle := (le_exprs mm).expr (d + 1) s2 hs2
                  have hre := hle.rem
                  obtain ⟨q, hqe⟩ : ∃ q, exprR mm (d + 1) s2 = q := ⟨_, rfl⟩
                  rw [hqe] at hq hle hv hre
                  obtain ⟨⟨c1, c2, c3, c4, c5, c6, c7⟩, s3⟩ := q
                  dsimp only at hq hle hv hre
                  refine hq.to (low1 (.int _ _)) (low_ea _ _) _ rfl ?_
                  have hs3 := hs2.of hle
                  conv => whnf
                  refine F.take hs3 kRp _ rfl ?_
                  have k5 := take_le hs3 kRp
                  have hr5 := k5.rem
                  generalize takeR s3 kRp = s5 at k5 hv hr5 ⊢
                  conv => whnf
                  exact next s5 _ _ [] 0 [] [.mk k p nm v ns l ts, .mk c1 c2 c3 c4 c5 c6 c7] [] _ _ _ _ _ (hs3.of k5) (by omega) hv rfl ⟨rfl, rfl, rfl, rfl, trivial⟩
            exact inv_of [(0, .ptr 1 0), (1, .int .i64 d), (4, .ptr 2 0), (14, .ptr 3 0)] ⟨rfl, rfl, rfl, rfl, trivial⟩ (key (m + 1) s1 _ _ _ _ _ _ _ _ (Nat.le_refl _) hs1 (by omega) hR.symm)
          · rw [if_pos h2, ifR] at hR
            conv => whnf
            refine F.take hs kIf _ rfl ?_
            have k1 := take_le hs kIf
            have hr := take_rem hs h2
            generalize takeR s kIf = s1 at k1 hr hR ⊢
            have hs1 := hs.of k1
            conv => whnf
            rw [addN (by omega)]
            have hq := (ih m (by omega)).expr (d + 1) s1 hs1 (by omega) (by omega)
            have hle := (le_exprs m).expr (d + 1) s1 hs1
            have hre := hle.rem
            obtain ⟨q, hqe⟩ : ∃ q, exprR m (d + 1) s1 = q := ⟨_, rfl⟩
            rw [hqe] at hq hle hR hre
            obtain ⟨⟨a1, a2, a3, a4, a5, a6, a7⟩, s2⟩ := q
            dsimp only at hq hle hR hre
            refine hq.to (low1 (.int _ _)) (low_ea _ _) _ rfl ?_
            have hs2 := hs1.of hle
            conv => whnf
            refine F.take hs2 kThen _ rfl ?_
            have k3 := take_le hs2 kThen
            have hr3 := k3.rem
            generalize takeR s2 kThen = s3 at k3 hR hr3 ⊢
            have hs3 := hs2.of k3
            conv => whnf
            rw [addN (by omega)]
            have hq := (ih m (by omega)).expr (d + 1) s3 hs3 (by omega) (by omega)
            have hle := (le_exprs m).expr (d + 1) s3 hs3
            have hre3 := hle.rem
            obtain ⟨q, hqe⟩ : ∃ q, exprR m (d + 1) s3 = q := ⟨_, rfl⟩
            rw [hqe] at hq hle hR hre3
            obtain ⟨m', rfl⟩ : ∃ m', m = m' + 1 := ⟨m - 1, by omega⟩
            rw [elseR] at hR
            obtain ⟨⟨b1, b2, b3, b4, b5, b6, b7⟩, s4⟩ := q
            dsimp only at hq hle hR hre3
            refine hq.to (low1 (.int _ _)) (low_ea _ _) _ rfl ?_
            have hs4 := hs3.of hle
            conv => whnf
            refine F.take hs4 kElse _ rfl ?_
            have k5 := take_le hs4 kElse
            have hr5 := k5.rem
            generalize takeR s4 kElse = s5 at k5 hR hr5 ⊢
            have hs5 := hs4.of k5
            conv => whnf
            rw [addN (by omega)]
            have hq := (ih m' (by omega)).expr (d + 1) s5 hs5 (by omega) (by omega)
            obtain ⟨q, hqe⟩ : ∃ q, exprR m' (d + 1) s5 = q := ⟨_, rfl⟩
            rw [hqe] at hq hR
            obtain ⟨⟨c1, c2, c3, c4, c5, c6, c7⟩, s6⟩ := q
            dsimp only at hq hR
            subst hR
            refine hq.to (low1 (.int _ _)) (low_ea _ _) _ rfl ?_
            conv => whnf
            exact ⟨_, rfl, weak_ea 10 s.tok.at_ [] 0 [] [.mk a1 a2 a3 a4 a5 a6 a7, .mk b1 b2 b3 b4 b5 b6 b7, .mk c1 c2 c3 c4 c5 c6 c7] [] _ _ _, rfl⟩
        · rw [if_pos h1, letR] at hR
          conv => whnf
          refine F.take hs kLet _ rfl ?_
          have k1 := take_le hs kLet
          have hr := take_rem hs h1
          generalize takeR s kLet = s1 at k1 hr hR ⊢
          have hs1 := hs.of k1
          conv => whnf
          refine F.name hs1 _ rfl ?_
          have n1 := name_le hs1
          have hrn := n1.rem
          obtain ⟨p, hp⟩ : ∃ p, nameR s1 = p := ⟨_, rfl⟩
          rw [hp] at hR n1 hrn ⊢
          have hs2 := hs1.of n1
          conv => whnf
          refine F.take hs2 kEq _ rfl ?_
          have k3 := take_le hs2 kEq
          have hr3 := k3.rem
          generalize takeR p.2 kEq = s3 at k3 hR hr3 ⊢
          have hs3 := hs2.of k3
          conv => whnf
          rw [addN (by omega)]
          have hq := (ih m (by omega)).expr (d + 1) s3 hs3 (by omega) (by omega)
          have hle := (le_exprs m).expr (d + 1) s3 hs3
          have hre := hle.rem
          obtain ⟨q, hqe⟩ : ∃ q, exprR m (d + 1) s3 = q := ⟨_, rfl⟩
          rw [hqe] at hq hle hR hre
          obtain ⟨⟨a1, a2, a3, a4, a5, a6, a7⟩, s4⟩ := q
          dsimp only at hq hle hR hre
          refine hq.to (low1 (.int _ _)) (low_ea _ _) _ rfl ?_
          have hs4 := hs3.of hle
          conv => whnf
          refine F.take hs4 kIn _ rfl ?_
          have k5 := take_le hs4 kIn
          have hr5 := k5.rem
          generalize takeR s4 kIn = s5 at k5 hR hr5 ⊢
          have hs5 := hs4.of k5
          conv => whnf
          rw [addN (by omega)]
          have hq := (ih m (by omega)).expr (d + 1) s5 hs5 (by omega) (by omega)
          obtain ⟨q, hqe⟩ : ∃ q, exprR m (d + 1) s5 = q := ⟨_, rfl⟩
          rw [hqe] at hq hR
          obtain ⟨⟨c1, c2, c3, c4, c5, c6, c7⟩, s6⟩ := q
          dsimp only at hq hR
          subst hR
          refine hq.to (low1 (.int _ _)) (low_ea _ _) _ rfl ?_
          conv => whnf
          exact ⟨_, rfl, weak_ea 9 s.tok.at_ p.1.text 0 [] [.mk a1 a2 a3 a4 a5 a6 a7, .mk c1 c2 c3 c4 c5 c6 c7] [] _ _ _, rfl⟩
      · rw [if_pos h0, funR] at hR
        conv => whnf
        refine F.take hs kFun _ rfl ?_
        have k0 := take_le hs kFun
        have hr0 := take_rem hs h0
        generalize takeR s kFun = s0 at k0 hr0 hR ⊢
        have hs0 := hs.of k0
        conv => whnf
        refine F.take hs0 kLp _ rfl ?_
        have k1 := take_le hs0 kLp
        have hr := k1.rem
        generalize takeR s0 kLp = s1 at k1 hr hR ⊢
        have hs1 := hs0.of k1
        conv => whnf
        refine F.name hs1 _ rfl ?_
        have n1 := name_le hs1
        have hrn := n1.rem
        obtain ⟨p, hp⟩ : ∃ p, nameR s1 = p := ⟨_, rfl⟩
        rw [hp] at hR n1 hrn ⊢
        have hs2 := hs1.of n1
        conv => whnf
        refine F.take hs2 kColon _ rfl ?_
        have k3 := take_le hs2 kColon
        have hr3 := k3.rem
        generalize takeR p.2 kColon = s3 at k3 hR hr3 ⊢
        have hs3 := hs2.of k3
        conv => whnf
        cases hb3 : s3.bad
        · rw [if_neg (by simp [hb3])] at hR
          conv => whnf
          rw [addN (by omega)]
          have hq := (ty_all F m).type (d + 1) s3 hs3 (by omega) (by omega)
          have hle := (le_types m).1 (d + 1) s3 hs3
          have hre := hle.rem
          obtain ⟨q, hqe⟩ : ∃ q, typeR m (d + 1) s3 = q := ⟨_, rfl⟩
          rw [hqe] at hq hle hR hre
          obtain ⟨⟨a1, a2, a3, a4⟩, s4⟩ := q
          dsimp only at hq hle hR hre
          refine hq.to (low1 (.int _ _)) (low_ta _ _) _ rfl ?_
          have hs4 := hs3.of hle
          conv => whnf
          refine F.take hs4 kRp _ rfl ?_
          have k5 := take_le hs4 kRp
          have hr5 := k5.rem
          generalize takeR s4 kRp = s5 at k5 hR hr5 ⊢
          have hs5 := hs4.of k5
          conv => whnf
          cases hb5 : s5.bad
          · rw [if_neg (by simp [hb5])] at hR
            conv => whnf
            rw [addN (by omega)]
            have hq := (ih m (by omega)).expr (d + 1) s5 hs5 (by omega) (by omega)
            obtain ⟨q, hqe⟩ : ∃ q, exprR m (d + 1) s5 = q := ⟨_, rfl⟩
            rw [hqe] at hq hR
            obtain ⟨⟨c1, c2, c3, c4, c5, c6, c7⟩, s6⟩ := q
            dsimp only at hq hR
            subst hR
            refine hq.to (low1 (.int _ _)) (low_ea _ _) _ rfl ?_
            conv => whnf
            refine ⟨⟨rfl, rfl, trivial⟩, ?_⟩
            conv => whnf
            exact ⟨_, rfl, weak_ea 8 s.tok.at_ p.1.text 0 [] [.mk c1 c2 c3 c4 c5 c6 c7] [.mk a1 a2 a3 a4] _ _ _, rfl⟩
          · rw [if_pos hb5] at hR
            subst hR
            conv => whnf
            exact ⟨_, rfl, weak_zeroE, rfl⟩
        · rw [if_pos hb3] at hR
          subst hR
          conv => whnf
          exact ⟨_, rfl, weak_zeroE, rfl⟩
    · rw [if_pos hb] at hR
      subst hR
      conv => whnf
      exact ⟨_, rfl, weak_zeroE, rfl⟩
  · have hd64 : 64 < d := by simp at hdd; omega
    rw [show deepR d s = giveR s 3 from if_pos hd64, if_pos (give_bad s 3)] at hR
    subst hR
    conv => whnf
    refine F.give hs 3 _ rfl ?_
    conv => whnf
    rw [give_bad]
    conv => whnf
    exact ⟨_, rfl, weak_zeroE, rfl⟩

theorem ex_all (F : RFns T) : ∀ n, ExSpec T n := fun n => Nat.strongRecOn n fun n ih => by
  cases n with
  | zero => exact ⟨fun d s hs hd hf => by omega, fun d s hs hd hf => by omega⟩
  | succ n =>
    have ih' : ∀ m, m ≤ n → ExSpec T m := fun m hm => ih m (by omega)
    exact ⟨fun d s hs hd hf => expr_step F n ih' d s hs hd hf, fun d s hs hd hf => basic_step F n ih' d s hs hd hf⟩

end Go.Ag

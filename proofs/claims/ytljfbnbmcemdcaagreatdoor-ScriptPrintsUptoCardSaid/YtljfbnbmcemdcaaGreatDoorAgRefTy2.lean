/- Package cupelref05: Type, arrow, plain. -/
import Derived.Test.YtljfbnbmcemdcaaGreatDoorAgRefTy
set_option linter.unusedVariables false
namespace Go.Ag
open Go

variable {T : Tab} {L : Lnk}

structure TySpec (T : Tab) (n : Nat) : Prop where
  type : ∀ (d : Nat) (s : RS), s.ok → d ≤ 65 → 6 * s.rem + 6 ≤ n → RC T.L 62 [.int .i64 d] s (typeR n d s).1.av (typeR n d s).2
  arrow : ∀ (d : Nat) (s : RS), s.ok → d ≤ 64 → 6 * s.rem + 5 ≤ n → RC T.L 83 [.int .i64 d] s (arrowR n d s).1.av (arrowR n d s).2
  plain : ∀ (d : Nat) (s : RS), s.ok → d ≤ 64 → 6 * s.rem + 4 ≤ n → RC T.L 96 [.int .i64 d] s (plainR n d s).1.av (plainR n d s).2

def zeroC : List AVal := [.int .i64 0, .str [], .lst [] .nil, .lst [] .nil]
theorem weak_zeroT : Weak L (.agg [.int .i64 0, .str [], .lst [] .nil, .lst [] .nil]) zeroT.av := by
  rw [zeroT, TA.av]
  exact Weak.agg ⟨Weak.refl _, Weak.refl _, Weak.tok _ _, Weak.tok _ _, trivial⟩

theorem arrow_step (F : RFns T) (n : Nat) (ih : ∀ m, m ≤ n → TySpec T m) (d : Nat) (s : RS) (hs : s.ok) (hd : d ≤ 64) (hf : 6 * s.rem + 5 ≤ n + 1) : RC T.L 83 [.int .i64 d] s (arrowR (n + 1) d s).1.av (arrowR (n + 1) d s).2 := by
  refine RC.of 0 (low_ta _ _) (acallsG F.h83 (by simp [c_83]) ?_)
  have hp := (ih n (Nat.le_refl _)).plain d s hs hd (by omega)
  have hle := (le_types n).2.2.2.1 d s hs
  rw [arrowR]
  generalize plainR n d s = p at hp hle ⊢
  obtain ⟨⟨k, nm, ns, l⟩, s1⟩ := p
  dsimp only at hp hle ⊢
  have hs1 := hs.of hle
  conv => whnf
  refine hp.to (low1 (.int _ _)) (low_ta _ _) _ rfl ?_
  conv => whnf
  refine F.is hs1 kArr _ rfl ?_
  cases hi : isR s1 kArr
  · rw [if_neg (by simp)]
    conv => whnf
    exact ⟨_, rfl, Weak.refl _, rfl⟩
  · rw [if_pos rfl]
    conv => whnf
    refine F.take hs1 kArr _ rfl ?_
    have k2 := take_le hs1 kArr
    have hs2 := hs1.of k2
    have hr := take_rem hs1 hi
    have hr0 := hle.rem
    generalize takeR s1 kArr = s2 at k2 hs2 hr ⊢
    conv => whnf
    rw [addN (by omega)]
    cases hdd : decide (((d + 1 : Nat) : Int) > 64)
    · rw [if_neg (by simp at hdd; omega)]
      conv => whnf
      rw [addN (by omega)]
      have ha := (ih n (Nat.le_refl _)).arrow (d + 1) s2 hs2 (by simp at hdd; omega) (by omega)
      generalize arrowR n (d + 1) s2 = q at ha ⊢
      obtain ⟨⟨k', nm', ns', l'⟩, s3⟩ := q
      dsimp only at ha ⊢
      refine ha.to (low1 (.int _ _)) (low_ta _ _) _ rfl ?_
      conv => whnf
      refine ⟨_, rfl, ?_, rfl⟩
      rw [TA.av]
      exact Weak.agg ⟨Weak.refl _, Weak.refl _, Weak.tok _ _, Weak.tok _ _, trivial⟩
    · rw [if_pos (by simp at hdd; omega)]
      conv => whnf
      refine F.give hs2 3 _ rfl ?_
      conv => whnf
      exact ⟨_, rfl, Weak.refl _, rfl⟩

theorem give_bad (s : RS) (c : Int) : (giveR s c).bad = true := by
  unfold giveR
  split
  · rename_i h; exact h
  · rfl

theorem type_step (F : RFns T) (n : Nat) (ih : ∀ m, m ≤ n → TySpec T m) (d : Nat) (s : RS) (hs : s.ok) (hd : d ≤ 65) (hf : 6 * s.rem + 6 ≤ n + 1) : RC T.L 62 [.int .i64 d] s (typeR (n + 1) d s).1.av (typeR (n + 1) d s).2 := by
  refine RC.of 1 (low_ta _ _) (acallsG F.h62 (by simp [c_62]) ?_)
  rw [typeR]
  conv => whnf
  cases hdd : decide ((d : Int) > 64)
  · have hd64 : ¬ 64 < d := by simp at hdd; omega
    simp only [if_neg hd64]
    conv => whnf
    cases hb : s.bad
    · rw [if_neg (by simp)]
      have hp := (ih n (Nat.le_refl _)).arrow d s hs (by omega) (by omega)
      have hle := (le_types n).2.2.1 d s hs
      generalize arrowR n d s = p at hp hle ⊢
      obtain ⟨⟨k, nm, ns, ll⟩, s1⟩ := p
      dsimp only at hp hle ⊢
      have hs1 := hs.of hle
      conv => whnf
      refine hp.to (low1 (.int _ _)) (low_ta _ _) _ rfl ?_
      conv => whnf
      refine F.is hs1 kBar _ rfl ?_
      cases hi : isR s1 kBar
      · rw [if_neg (by simp)]
        conv => whnf
        exact ⟨_, rfl, Weak.refl _, rfl⟩
      · rw [if_pos rfl]
        conv => whnf
        intro I hI hG
        have key : ∀ (m : Nat) (s' : RS) (l : List TA) (e : Env), m ≤ n → s'.ok → 6 * s'.rem + 5 ≤ m → 1 ≤ l.length → l.length + s'.rem ≤ 2 ^ 34 → altsR n d [.mk k nm ns ll] s1 = altsR m d l s' →
            I (setL e [(0, .ptr 1 0), (1, .int .i64 d), (4, .ptr 3 0), (6, .ptr 5 0)]) [dobjR s', robj s', bobj 1 l.length 109, .cells [.int .i64 0, .str [], .lst [] .nil, .lst [] .nil] 109,
              .cells [.int .i64 k, .str nm, .lst (strA ns) .none, .lst (TA.avs ll) .none] 109, .cells [.int .i64 7, .str [], .lst [] .nil, .lst (TA.avs l) (btok 1 l.length 2)] 109] := by
          intro m
          induction m with
          | zero => intro s' l e _ _ h; omega
          | succ m ihm =>
            intro s' l e hm hs' hf' hl1 hl2 hv
            rw [altsR] at hv
            apply hI
            conv => whnf
            refine F.is hs' kBar _ rfl ?_
            cases hi' : isR s' kBar
            · rw [if_neg (by simp [hi'])] at hv
              rw [hv]
              conv => whnf
              refine ⟨_, rfl, ?_, rfl⟩
              rw [TA.av]
              exact Weak.agg ⟨Weak.refl _, Weak.refl _, Weak.tok _ _, Weak.tok _ _, trivial⟩
            · rw [if_pos hi'] at hv
              conv => whnf
              refine F.take hs' kBar _ rfl ?_
              have k2 := take_le hs' kBar
              have hs2 := hs'.of k2
              have hr := take_rem hs' hi'
              generalize takeR s' kBar = s2 at k2 hs2 hr hv ⊢
              conv => whnf
              have ha := (ih m (by omega)).arrow d s2 hs2 (by omega) (by omega)
              have hle' := (le_types m).2.2.1 d s2 hs2
              generalize arrowR m d s2 = q at ha hle' hv ⊢
              obtain ⟨⟨k', nm', ns', l'⟩, s3⟩ := q
              dsimp only at ha hle' hv ⊢
              refine ha.to (low1 (.int _ _)) (low_ta _ _) _ rfl ?_
              conv => whnf
              refine ⟨⟨rfl, trivial⟩, ?_⟩
              conv => whnf
              have e1 : l.length = (TA.avs l).length := (tas_len l).symm
              have hr3 := hle'.rem
              rw [e1]
              refine app_slotB (id := 2) (b := 1) (sized_tas l) (sized_one rfl) (by rw [tas_len]; simp; omega) (by rw [tas_len]; simp; omega) (by simp) (by rw [tas_len]; exact hl1) rfl ?_
              conv => whnf
              have e2 : TA.avs (l ++ [.mk k' nm' ns' l']) = TA.avs l ++ [.agg [.int .i64 k', .str nm', .lst (strA ns') .none, .lst (TA.avs l') .none]] := by rw [tas_append]; rfl
              have e3 : (l ++ [TA.mk k' nm' ns' l']).length = (TA.avs l ++ [AVal.agg [.int .i64 k', .str nm', .lst (strA ns') .none, .lst (TA.avs l') .none]]).length := by rw [← e2, tas_len]
              have hnext := fun e => ihm s3 (l ++ [.mk k' nm' ns' l']) e (by omega) (hs2.of hle') (by omega) (by simp) (by simp; omega) hv
              rw [e3, e2] at hnext
              exact inv_of [(0, .ptr 1 0), (1, .int .i64 d), (4, .ptr 3 0), (6, .ptr 5 0)] ⟨rfl, rfl, rfl, rfl, trivial⟩ (hnext _)
        exact inv_of [(0, .ptr 1 0), (1, .int .i64 d), (4, .ptr 3 0), (6, .ptr 5 0)] ⟨rfl, rfl, rfl, rfl, trivial⟩ (key n s1 [.mk k nm ns ll] _ (Nat.le_refl _) hs1 (by have := hle.rem; omega) (by simp) (by have := hle.rem; have := hs.len; simp [RS.rem] at *; omega) rfl)
    · rw [if_pos rfl]
      conv => whnf
      exact ⟨_, rfl, weak_zeroT, rfl⟩
  · have hd64 : 64 < d := by simp at hdd; omega
    simp only [if_pos hd64]
    conv => whnf
    refine F.give hs 3 _ rfl ?_
    conv => whnf
    rw [give_bad, if_pos rfl]
    conv => whnf
    exact ⟨_, rfl, weak_zeroT, rfl⟩

theorem kind_name {s : RS} (h : s.tok.kind = 1) (w : Bytes) : isR s w = false := by
  cases hi : isR s w
  · rfl
  · rcases (is_kind hi).2.2.2 with h' | h' <;> omega

theorem step_elem {k : Nat} {xs : List AVal} {n : Int} {y : AVal} {P : AVal → Prop} (h0 : 0 ≤ n) (h : xs[n.toNat]? = some y) (hk : y.cells.length = k) (hp : P y) : 0 ≤ n ∧ (match xs[n.toNat]? with
    | some y => y.cells.length = k ∧ P y
    | none => False) := ⟨h0, by rw [h]; exact ⟨hk, hp⟩⟩

theorem ins_len {α : Type} (l : List α) (i : Nat) (x : α) : (insR l i x).length = l.length + 1 := by
  simp only [insR, List.length_append, List.length_take, List.length_drop, List.length_cons, List.length_nil]
  omega
theorem commaR_eq (s : RS) : commaR s = if isR s kRb then s else if isR (takeR s kComma) kRb then giveR (takeR s kComma) 2 else takeR s kComma := rfl

def baseL : List Bytes := [kInt, kBool, kText, kDyn]

theorem plain_step (F : RFns T) (n : Nat) (ih : ∀ m, m ≤ n → TySpec T m) (d : Nat) (s : RS) (hs : s.ok) (hd : d ≤ 64) (hf : 6 * s.rem + 4 ≤ n + 1) : RC T.L 96 [.int .i64 d] s (plainR (n + 1) d s).1.av (plainR (n + 1) d s).2 := by
  refine RC.of 0 (low_ta _ _) (acallsG F.h96 (by simp [c_96]) ?_)
  obtain ⟨R, hR⟩ : ∃ R, plainR (n + 1) d s = R := ⟨_, rfl⟩
  rw [hR]
  rw [plainR] at hR
  conv => whnf
  cases hb : s.bad
  · rw [if_neg (by simp [hb])] at hR
    conv => whnf
    refine step_tok hs ?_
    conv => whnf
    cases hk : (s.tok.kind == 1)
    · rw [if_neg (by simpa using hk)] at hR
      conv => whnf
      intro I hI hG
      have base : ∀ (i : Int), Weak T.L (.agg [.int .i64 i, .str [], .lst [] .nil, .lst [] .nil]) (TA.mk i [] [] []).av := fun i => by
        rw [TA.av]
        exact Weak.agg ⟨Weak.refl _, Weak.refl _, Weak.tok _ _, Weak.tok _ _, trivial⟩
      refine hI _ _ ?_
      conv => whnf
      refine ⟨by decide, ?_⟩
      conv => whnf
      refine ⟨rfl, ?_⟩
      conv => whnf
      refine F.is hs kInt _ rfl ?_
      cases h0 : isR s kInt
      · rw [if_neg (by simp [h0])] at hR
        conv => whnf
        refine hI _ _ ?_
        conv => whnf
        refine ⟨by decide, ?_⟩
        conv => whnf
        refine ⟨rfl, ?_⟩
        conv => whnf
        refine F.is hs kBool _ rfl ?_
        cases h1 : isR s kBool
        · rw [if_neg (by simp [h1])] at hR
          conv => whnf
          refine hI _ _ ?_
          conv => whnf
          refine ⟨by decide, ?_⟩
          conv => whnf
          refine ⟨rfl, ?_⟩
          conv => whnf
          refine F.is hs kText _ rfl ?_
          cases h2 : isR s kText
          · rw [if_neg (by simp [h2])] at hR
            conv => whnf
            refine hI _ _ ?_
            conv => whnf
            refine ⟨by decide, ?_⟩
            conv => whnf
            refine ⟨rfl, ?_⟩
            conv => whnf
            refine F.is hs kDyn _ rfl ?_
            cases h3 : isR s kDyn
            · rw [if_neg (by simp [h3])] at hR
              conv => whnf
              refine hI _ _ ?_
              conv => whnf
              clear hI hG
              refine F.is hs kLb _ rfl ?_
              cases h4 : isR s kLb
              · rw [if_neg (by simp [h4])] at hR
                conv => whnf
                refine F.take hs kLp _ rfl ?_
                have k1 := take_le hs kLp
                have hs1 := hs.of k1
                have hr : (takeR s kLp).bad = false → (takeR s kLp).rem + 1 = s.rem := fun h => take_rem hs (take_bad h).2.1
                generalize takeR s kLp = s1 at k1 hs1 hr hR ⊢
                conv => whnf
                cases hb1 : s1.bad
                · rw [if_neg (by simp [hb1])] at hR
                  have hr := hr hb1
                  conv => whnf
                  rw [addN (by omega)]
                  have ha := (ih n (Nat.le_refl _)).type (d + 1) s1 hs1 (by omega) (by omega)
                  have hle := (le_types n).1 (d + 1) s1 hs1
                  generalize typeR n (d + 1) s1 = q at ha hle hR ⊢
                  subst hR
                  obtain ⟨⟨k', nm', ns', l'⟩, s2⟩ := q
                  dsimp only at ha hle ⊢
                  refine ha.to (low1 (.int _ _)) (low_ta _ _) _ rfl ?_
                  conv => whnf
                  refine F.take (hs1.of hle) kRp _ rfl ?_
                  conv => whnf
                  exact ⟨_, rfl, Weak.refl _, rfl⟩
                · rw [if_pos hb1] at hR
                  subst hR
                  conv => whnf
                  exact ⟨_, rfl, weak_zeroT, rfl⟩
              · rw [if_pos h4] at hR
                conv => whnf
                refine F.take hs kLb _ rfl ?_
                have k1 := take_le hs kLb
                have hs1 := hs.of k1
                have hr := take_rem hs h4
                generalize takeR s kLb = s1 at k1 hs1 hr hR ⊢
                conv => whnf
                intro I hI hG
                have key : ∀ (m : Nat) (s' : RS) (names : List Bytes) (l : List TA) (e : Env), m ≤ n → s'.ok → 6 * s'.rem + 4 ≤ m → l.length = names.length → names.length + s'.rem ≤ 2 ^ 34 → R = fieldsR m d (.mk 5 [] names l) s' →
                    I (setL e [(0, .ptr 1 0), (1, .int .i64 d), (4, .ptr 2 0), (9, .ptr 4 0)]) [dobjR s', robj s', .cells [.int .i64 0, .str [], .lst [] .nil, .lst [] .nil] 109,
                      .cells [.int .i64 s.tok.kind, .int .i64 s.tok.at_, .str s.tok.text] 86, .cells [.int .i64 5, .str [], .lst (strA names) .none, .lst (TA.avs l) .none] 109] := by
                  intro m
                  induction m with
                  | zero => intro s' names l e _ _ h; omega
                  | succ m ihm =>
                    intro s' names l e hm hs' hf' hl1 hl2 hv
                    rw [fieldsR] at hv
                    have next : ∀ (s2 : RS) (names2 : List Bytes) (l2 : List TA) (e2 : Env) (H2 : Heap), s2.ok → 6 * s2.rem + 4 ≤ m → l2.length = names2.length → names2.length + s2.rem ≤ 2 ^ 34 → R = fieldsR m d (.mk 5 [] names2 l2) s2 →
                        H2.take 5 = [dobjR s2, robj s2, .cells [.int .i64 0, .str [], .lst [] .nil, .lst [] .nil] 109,
                          .cells [.int .i64 s.tok.kind, .int .i64 s.tok.at_, .str s.tok.text] 86, .cells [.int .i64 5, .str [], .lst (strA names2) .none, .lst (TA.avs l2) .none] 109] →
                        envHas e2 [(0, .ptr 1 0), (1, .int .i64 d), (4, .ptr 2 0), (9, .ptr 4 0)] → I e2 H2 := fun s2 names2 l2 e2 H2 c1 c2 c3 c4 c5 c6 c7 =>
                      hG.keep [(0, .ptr 1 0), (1, .int .i64 d), (4, .ptr 2 0), (9, .ptr 4 0)] [dobjR s2, robj s2, .cells [.int .i64 0, .str [], .lst [] .nil, .lst [] .nil] 109,
                          .cells [.int .i64 s.tok.kind, .int .i64 s.tok.at_, .str s.tok.text] 86, .cells [.int .i64 5, .str [], .lst (strA names2) .none, .lst (TA.avs l2) .none] 109] (Nat.le_refl 5) c6 c7 ⟨.ptr _ _ (by decide : 1 < 5), .int _ _, .ptr _ _ (by decide : 2 < 5), .ptr _ _ (by decide : 4 < 5), trivial⟩
                        ⟨dobj_low _ _ _, low_robjN (n := 5) (by decide) _, lowC ⟨.int _ _, .str _, .lst _ _ trivial low0, .lst _ _ trivial low0, trivial⟩, lowC ⟨.int _ _, .int _ _, .str _, trivial⟩, lowC ⟨.int _ _, .str _, low_strs' _ _ _ trivial, .lst _ _ trivial (low_tas _ _), trivial⟩, trivial⟩
                        (ihm s2 names2 l2 _ (by omega) c1 c2 c3 c4 c5)
                    apply hI
                    conv => whnf
                    cases hb' : s'.bad
                    · conv => whnf
                      refine F.is hs' kRb _ rfl ?_
                      cases hi' : isR s' kRb
                      · rw [if_pos (by simp [hb', hi'])] at hv
                        conv => whnf
                        refine F.name hs' _ rfl ?_
                        have n1 := name_le hs'
                        have n3 := twice_le hs' kColon
                        obtain ⟨p, hp⟩ : ∃ p, nameR s' = p := ⟨_, rfl⟩
                        rw [hp] at hv n1 n3 ⊢
                        have hs2 := hs'.of n1
                        conv => whnf
                        refine F.take hs2 kColon _ rfl ?_
                        have n4 := take_le hs2 kColon
                        obtain ⟨s3, hs3e⟩ : ∃ s3, takeR p.2 kColon = s3 := ⟨_, rfl⟩
                        rw [hs3e] at hv n3 n4 ⊢
                        have hs3 := hs2.of n4
                        conv => whnf
                        cases hb3 : s3.bad
                        · rw [if_neg (by simp [hb3])] at hv
                          have hr3 : s3.rem + 2 = s'.rem := by
                            rw [← hs3e, ← hp]
                            exact two_rem hs' kColon (by rw [hp, hs3e]; exact hb3)
                          have hle3 := n3 hb3
                          conv => whnf
                          refine (has_spec F.h85 names p.1.text (by omega) .none trivial).to ?_
                          cases ht : hasR names p.1.text
                          case' true =>
                            rw [if_pos (by exact ht)] at hv
                            conv => whnf
                            refine app_diag hs3 ⟨p.1.at_, 4, p.1.text⟩ rfl rfl ?_
                            conv => whnf
                            rw [addN (by omega)]
                            have hs4 := hs'.of hle3
                            have hq := (ih m (by omega)).type (d + 1) (twiceR s3 p.1) hs4 (by omega) (by show 6 * s3.rem + 6 ≤ m; omega)
                            have hle4 := (le_types m).1 (d + 1) (twiceR s3 p.1) hs4
                            have hre4 := hle4.rem
                            have hre5 : (twiceR s3 p.1).rem = s3.rem := rfl
                            obtain ⟨q, hqe⟩ : ∃ q, typeR m (d + 1) (twiceR s3 p.1) = q := ⟨_, rfl⟩
                            rw [hqe] at hv hq hle4 hre4
                            obtain ⟨⟨k', nm', ns', l'⟩, s5⟩ := q
                            dsimp only at hv hq hle4 hre4
                            refine hq.to (low1 (.int _ _)) (low_ta _ _) _ rfl ?_
                            have hs5 := hs4.of hle4
                            have hv2 : R = fieldsR m d (.mk 5 [] names l) (commaR s5) := hv
                            have hl3 : l.length = names.length := hl1
                            have hl4 : names.length ≤ names.length + 1 := by omega
                            conv => whnf
                          case' false =>
                            rw [if_neg (by rw [show TA.names (.mk 5 [] names l) = names from rfl, ht]; simp)] at hv
                            conv => whnf
                            rw [addN (by omega)]
                            have hq := (ih m (by omega)).type (d + 1) s3 hs3 (by omega) (by omega)
                            have hle4 := (le_types m).1 (d + 1) s3 hs3
                            have hre4 := hle4.rem
                            obtain ⟨q, hqe⟩ : ∃ q, typeR m (d + 1) s3 = q := ⟨_, rfl⟩
                            rw [hqe] at hv hq hle4 hre4
                            obtain ⟨⟨k', nm', ns', l'⟩, s5⟩ := q
                            dsimp only at hv hq hle4 hre4
                            refine hq.to (low1 (.int _ _)) (low_ta _ _) _ rfl ?_
                            have hs5 := hs3.of hle4
                            conv => whnf
                            refine (insert_spec F.h104 5 [] names l p.1.text (.mk k' nm' ns' l') hl1 (by omega) k' nm' ns' l' rfl).to ?_
                            have hv2 : R = fieldsR m d (.mk 5 [] (insR names (lowR names p.1.text) p.1.text) (insR l (lowR names p.1.text) (.mk k' nm' ns' l'))) (commaR s5) := hv
                            have hl3 : (insR l (lowR names p.1.text) (.mk k' nm' ns' l')).length = (insR names (lowR names p.1.text) p.1.text).length := by rw [ins_len, ins_len, hl1]
                            have hl4 : (insR names (lowR names p.1.text) p.1.text).length ≤ names.length + 1 := by rw [ins_len]; omega
                            conv => whnf
                          all_goals
                            refine F.is hs5 kRb _ rfl ?_
                            have hc := commaR_eq s5
                            cases hi5 : isR s5 kRb
                            · rw [hi5, if_neg (by simp)] at hc
                              conv => whnf
                              refine F.take hs5 kComma _ rfl ?_
                              have n6 := take_le hs5 kComma
                              have hr6 := n6.rem
                              generalize takeR s5 kComma = s6 at n6 hc hr6 ⊢
                              have hs6 := hs5.of n6
                              conv => whnf
                              refine F.is hs6 kRb _ rfl ?_
                              cases hi6 : isR s6 kRb
                              · rw [hi6, if_neg (by simp)] at hc
                                rw [hc] at hv2
                                conv => whnf
                                exact next s6 _ _ _ _ hs6 (by omega) hl3 (by omega) hv2 rfl ⟨rfl, rfl, rfl, rfl, trivial⟩
                              · rw [hi6, if_pos rfl] at hc
                                rw [hc] at hv2
                                conv => whnf
                                refine F.give hs6 2 _ rfl ?_
                                conv => whnf
                                have hr7 := (give_le hs6 2).rem
                                exact next (giveR s6 2) _ _ _ _ (hs6.of (give_le hs6 2)) (by omega) hl3 (by omega) hv2 rfl ⟨rfl, rfl, rfl, rfl, trivial⟩
                            · rw [hi5, if_pos rfl] at hc
                              rw [hc] at hv2
                              conv => whnf
                              exact next s5 _ _ _ _ hs5 (by omega) hl3 (by omega) hv2 rfl ⟨rfl, rfl, rfl, rfl, trivial⟩
                        · rw [if_pos hb3] at hv
                          subst hv
                          conv => whnf
                          exact ⟨_, rfl, weak_zeroT, rfl⟩
                      · rw [if_neg (by simp [hi'])] at hv
                        subst hv
                        conv => whnf
                        refine F.take hs' kRb _ rfl ?_
                        conv => whnf
                        exact ⟨_, rfl, Weak.refl _, rfl⟩
                    · rw [if_neg (by simp [hb'])] at hv
                      subst hv
                      conv => whnf
                      refine F.take hs' kRb _ rfl ?_
                      conv => whnf
                      exact ⟨_, rfl, Weak.refl _, rfl⟩
                refine hG.nextS [(0, .ptr 1 0), (1, .int .i64 d), (4, .ptr 2 0), (9, .ptr 4 0)] [dobjR s1, robj s1, .cells [.int .i64 0, .str [], .lst [] .nil, .lst [] .nil] 109,
                      .cells [.int .i64 s.tok.kind, .int .i64 s.tok.at_, .str s.tok.text] 86, .cells [.int .i64 5, .str [], .lst (strA []) .none, .lst (TA.avs []) .none] 109]
                    [dobjR s1, robj s1, .cells [.int .i64 0, .str [], .lst [] .nil, .lst [] .nil] 109,
                      .cells [.int .i64 s.tok.kind, .int .i64 s.tok.at_, .str s.tok.text] 86, .cells [.int .i64 5, .str [], .lst [] .nil, .lst [] .nil] 109] [] rfl (Nat.le_refl _) ?_ ?_ ?_ ?_
                · exact ⟨WeakO.refl _, WeakO.refl _, WeakO.refl _, WeakO.refl _, ⟨rfl, Weak.refl _, Weak.refl _, Weak.tok _ _, Weak.tok _ _, trivial⟩, trivial⟩
                · exact slots_of ⟨rfl, rfl, rfl, rfl, trivial⟩ ⟨.ptr _ _ (by decide : 1 < 5), .int _ _, .ptr _ _ (by decide : 2 < 5), .ptr _ _ (by decide : 4 < 5), trivial⟩
                · exact ⟨dobj_low _ _ _, low_robjN (n := 5) (by decide) _, lowC ⟨.int _ _, .str _, .lst _ _ trivial low0, .lst _ _ trivial low0, trivial⟩, lowC ⟨.int _ _, .int _ _, .str _, trivial⟩, lowC ⟨.int _ _, .str _, low_strs' _ _ _ trivial, .lst _ _ trivial (low_tas _ _), trivial⟩, trivial⟩
                · refine key n s1 [] [] _ (Nat.le_refl _) hs1 (by omega) rfl ?_ hR.symm
                  have := hs.len
                  unfold RS.rem at *
                  simp
                  omega
            · rw [if_pos h3] at hR
              subst hR
              conv => whnf
              refine ⟨by decide, ?_⟩
              conv => whnf
              refine ⟨rfl, ?_⟩
              conv => whnf
              refine F.take hs kDyn _ rfl ?_
              conv => whnf
              exact ⟨_, rfl, base 4, rfl⟩
          · rw [if_pos h2] at hR
            subst hR
            conv => whnf
            refine ⟨by decide, ?_⟩
            conv => whnf
            refine ⟨rfl, ?_⟩
            conv => whnf
            refine F.take hs kText _ rfl ?_
            conv => whnf
            exact ⟨_, rfl, base 3, rfl⟩
        · rw [if_pos h1] at hR
          subst hR
          conv => whnf
          refine ⟨by decide, ?_⟩
          conv => whnf
          refine ⟨rfl, ?_⟩
          conv => whnf
          refine F.take hs kBool _ rfl ?_
          conv => whnf
          exact ⟨_, rfl, base 2, rfl⟩
      · rw [if_pos h0] at hR
        subst hR
        conv => whnf
        refine ⟨by decide, ?_⟩
        conv => whnf
        refine ⟨rfl, ?_⟩
        conv => whnf
        refine F.take hs kInt _ rfl ?_
        conv => whnf
        exact ⟨_, rfl, base 1, rfl⟩
    · rw [if_pos (by simpa using hk)] at hR
      subst hR
      conv => whnf
      rw [addN hs.i]
      refine ⟨_, rfl, ?_, ?_⟩
      · rw [TA.av]
        exact Weak.agg ⟨Weak.refl _, Weak.refl _, Weak.tok _ _, Weak.tok _ _, trivial⟩
      · rfl
  · rw [if_pos hb] at hR
    subst hR
    conv => whnf
    exact ⟨_, rfl, weak_zeroT, rfl⟩

theorem ty_all (F : RFns T) : ∀ n, TySpec T n := fun n => Nat.strongRecOn n fun n ih => by
  cases n with
  | zero => exact ⟨fun d s hs hd hf => by omega, fun d s hs hd hf => by omega, fun d s hs hd hf => by omega⟩
  | succ n =>
    have ih' : ∀ m, m ≤ n → TySpec T m := fun m hm => ih m (by omega)
    exact ⟨fun d s hs hd hf => type_step F n ih' d s hs hd hf, fun d s hs hd hf => arrow_step F n ih' d s hs hd hf, fun d s hs hd hf => plain_step F n ih' d s hs hd hf⟩

end Go.Ag

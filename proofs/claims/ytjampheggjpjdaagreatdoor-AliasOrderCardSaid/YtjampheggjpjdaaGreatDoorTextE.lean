/- Our texts, joined by a program of ours (join.py): part 5 of 8. -/
import Derived.Test.YtjampheggjpjdaaGreatDoorTextD
import Derived.KernelRfl
set_option linter.unusedVariables false
/- Package cupelref05: Type, arrow, plain. -/
namespace Go.Ag
open Go
variable {T : Tab} {L : Lnk}
structure TySpec (T : Tab) (n : Nat) : Prop where
 type : ∀ (d : Nat) (s : RS), s.ok → d ≤ 65 → 6 * s.rem + 6 ≤ n → RC T.L 62 [.int .i64 d] s (typeR n d s).1.av (typeR n d s).2
 arrow : ∀ (d : Nat) (s : RS), s.ok → d ≤ 64 → 6 * s.rem + 5 ≤ n → RC T.L 83 [.int .i64 d] s (arrowR n d s).1.av (arrowR n d s).2
 plain : ∀ (d : Nat) (s : RS), s.ok → d ≤ 64 → 6 * s.rem + 4 ≤ n → RC T.L 96 [.int .i64 d] s (plainR n d s).1.av (plainR n d s).2
theorem weak_zeroT : Weak L (.agg [.int .i64 0, .str [], .lst [] .nil, .lst [] .nil]) zeroT.av := by
 rw [zeroT, TA.av]
 exact Weak.agg ⟨Weak.refl _, Weak.refl _, Weak.tok _ _, Weak.tok _ _, trivial⟩
theorem arrow_step (F : RFns T) (n : Nat) (ih : ∀ m, m ≤ n → TySpec T m) (d : Nat) (s : RS) (hs : s.ok) (hd : d ≤ 64) (hf : 6 * s.rem + 5 ≤ n + 1) : RC T.L 83 [.int .i64 d] s (arrowR (n + 1) d s).1.av (arrowR (n + 1) d s).2 := by
 refine RC.of 0 (low_ta _ _) (acallsG F.h83 (by simp [c_83]) ?_)
 have hp := (ih n (Nat.le_refl _)).plain d s hs hd (by omega)
 have hle := (le_types n).2.2.2.1 d s hs
 rw [arrowR]
 generalize plainR n d s = p at hp hle ⊢
 obtain ⟨⟨k, nm, ns, l⟩, s1⟩ := p
 dsimp only at hp hle ⊢
 have hs1 := hs.of hle
 conv => whnf
 refine hp.to (low1 (.int _ _)) (low_ta _ _) _ rfl ?_
 conv => whnf
 refine F.is hs1 kArr _ rfl ?_
 cases hi : isR s1 kArr
 ·rw [if_neg (by simp)]
  conv => whnf
  exact ⟨_, rfl, Weak.refl _, rfl⟩
 ·rw [if_pos rfl]
  conv => whnf
  refine F.take hs1 kArr _ rfl ?_
  have k2 := take_le hs1 kArr
  have hs2 := hs1.of k2
  have hr := take_rem hs1 hi
  have hr0 := hle.rem
  generalize takeR s1 kArr = s2 at k2 hs2 hr ⊢
  conv => whnf
  rw [addN (by omega)]
  cases hdd : decide (((d + 1 : Nat) : Int) > 64)
  ·rw [if_neg (by simp at hdd; omega)]
   conv => whnf
   rw [addN (by omega)]
   have ha := (ih n (Nat.le_refl _)).arrow (d + 1) s2 hs2 (by simp at hdd; omega) (by omega)
   generalize arrowR n (d + 1) s2 = q at ha ⊢
   obtain ⟨⟨k', nm', ns', l'⟩, s3⟩ := q
   dsimp only at ha ⊢
   refine ha.to (low1 (.int _ _)) (low_ta _ _) _ rfl ?_
   conv => whnf
   refine ⟨_, rfl, ?_, rfl⟩
   rw [TA.av]
   exact Weak.agg ⟨Weak.refl _, Weak.refl _, Weak.tok _ _, Weak.tok _ _, trivial⟩
  ·rw [if_pos (by simp at hdd; omega)]
   conv => whnf
   refine F.give hs2 3 _ rfl ?_
   conv => whnf
   exact ⟨_, rfl, Weak.refl _, rfl⟩
theorem give_bad (s : RS) (c : Int) : (giveR s c).bad = true := by
 unfold giveR
 split
 ·rename_i h; exact h
 ·rfl
theorem type_step (F : RFns T) (n : Nat) (ih : ∀ m, m ≤ n → TySpec T m) (d : Nat) (s : RS) (hs : s.ok) (hd : d ≤ 65) (hf : 6 * s.rem + 6 ≤ n + 1) : RC T.L 62 [.int .i64 d] s (typeR (n + 1) d s).1.av (typeR (n + 1) d s).2 := by
 refine RC.of 1 (low_ta _ _) (acallsG F.h62 (by simp [c_62]) ?_)
 rw [typeR]
 conv => whnf
 cases hdd : decide ((d : Int) > 64)
 ·have hd64 : ¬ 64 < d := by simp at hdd; omega
  simp only [if_neg hd64]
  conv => whnf
  cases hb : s.bad
  ·rw [if_neg (by simp)]
   have hp := (ih n (Nat.le_refl _)).arrow d s hs (by omega) (by omega)
   have hle := (le_types n).2.2.1 d s hs
   generalize arrowR n d s = p at hp hle ⊢
   obtain ⟨⟨k, nm, ns, ll⟩, s1⟩ := p
   dsimp only at hp hle ⊢
   have hs1 := hs.of hle
   conv => whnf
   refine hp.to (low1 (.int _ _)) (low_ta _ _) _ rfl ?_
   conv => whnf
   refine F.is hs1 kBar _ rfl ?_
   cases hi : isR s1 kBar
   ·rw [if_neg (by simp)]
    conv => whnf
    exact ⟨_, rfl, Weak.refl _, rfl⟩
   ·rw [if_pos rfl]
    conv => whnf
    intro I hI hG
    have key : ∀ (m : Nat) (s' : RS) (l : List TA) (e : Env), m ≤ n → s'.ok → 6 * s'.rem + 5 ≤ m → 1 ≤ l.length → l.length + s'.rem ≤ 2 ^ 34 → altsR n d [.mk k nm ns ll] s1 = altsR m d l s' →
      I (setL e [(0, .ptr 1 0), (1, .int .i64 d), (4, .ptr 3 0), (6, .ptr 5 0)]) [dobjR s', robj s', bobj 1 l.length 109, .cells [.int .i64 0, .str [], .lst [] .nil, .lst [] .nil] 109,
       .cells [.int .i64 k, .str nm, .lst (strA ns) .none, .lst (TA.avs ll) .none] 109, .cells [.int .i64 7, .str [], .lst [] .nil, .lst (TA.avs l) (btok 1 l.length 2)] 109] := by
     intro m
     induction m with
     | zero => intro s' l e _ _ h; omega
     | succ m ihm =>
      intro s' l e hm hs' hf' hl1 hl2 hv
      rw [altsR] at hv
      apply hI
      conv => whnf
      refine F.is hs' kBar _ rfl ?_
      cases hi' : isR s' kBar
      ·rw [if_neg (by simp [hi'])] at hv
       rw [hv]
       conv => whnf
       refine ⟨_, rfl, ?_, rfl⟩
       rw [TA.av]
       exact Weak.agg ⟨Weak.refl _, Weak.refl _, Weak.tok _ _, Weak.tok _ _, trivial⟩
      ·rw [if_pos hi'] at hv
       conv => whnf
       refine F.take hs' kBar _ rfl ?_
       have k2 := take_le hs' kBar
       have hs2 := hs'.of k2
       have hr := take_rem hs' hi'
       generalize takeR s' kBar = s2 at k2 hs2 hr hv ⊢
       conv => whnf
       have ha := (ih m (by omega)).arrow d s2 hs2 (by omega) (by omega)
       have hle' := (le_types m).2.2.1 d s2 hs2
       generalize arrowR m d s2 = q at ha hle' hv ⊢
       obtain ⟨⟨k', nm', ns', l'⟩, s3⟩ := q
       dsimp only at ha hle' hv ⊢
       refine ha.to (low1 (.int _ _)) (low_ta _ _) _ rfl ?_
       conv => whnf
       refine ⟨⟨rfl, trivial⟩, ?_⟩
       conv => whnf
       have e1 : l.length = (TA.avs l).length := (tas_len l).symm
       have hr3 := hle'.rem
       rw [e1]
       refine app_slotB (id := 2) (b := 1) (sized_tas l) (sized_one rfl) (by rw [tas_len]; simp; omega) (by rw [tas_len]; simp; omega) (by simp) (by rw [tas_len]; exact hl1) rfl ?_
       conv => whnf
       have e2 : TA.avs (l ++ [.mk k' nm' ns' l']) = TA.avs l ++ [.agg [.int .i64 k', .str nm', .lst (strA ns') .none, .lst (TA.avs l') .none]] := by rw [tas_append]; rfl
       have e3 : (l ++ [TA.mk k' nm' ns' l']).length = (TA.avs l ++ [AVal.agg [.int .i64 k', .str nm', .lst (strA ns') .none, .lst (TA.avs l') .none]]).length := by rw [← e2, tas_len]
       have hnext := fun e => ihm s3 (l ++ [.mk k' nm' ns' l']) e (by omega) (hs2.of hle') (by omega) (by simp) (by simp; omega) hv
       rw [e3, e2] at hnext
       exact inv_of [(0, .ptr 1 0), (1, .int .i64 d), (4, .ptr 3 0), (6, .ptr 5 0)] ⟨rfl, rfl, rfl, rfl, trivial⟩ (hnext _)
    exact inv_of [(0, .ptr 1 0), (1, .int .i64 d), (4, .ptr 3 0), (6, .ptr 5 0)] ⟨rfl, rfl, rfl, rfl, trivial⟩ (key n s1 [.mk k nm ns ll] _ (Nat.le_refl _) hs1 (by have := hle.rem; omega) (by simp) (by have := hle.rem; have := hs.len; simp [RS.rem] at *; omega) rfl)
  ·rw [if_pos rfl]
   conv => whnf
   exact ⟨_, rfl, weak_zeroT, rfl⟩
 ·have hd64 : 64 < d := by simp at hdd; omega
  simp only [if_pos hd64]
  conv => whnf
  refine F.give hs 3 _ rfl ?_
  conv => whnf
  rw [give_bad, if_pos rfl]
  conv => whnf
  exact ⟨_, rfl, weak_zeroT, rfl⟩
theorem kind_name {s : RS} (h : s.tok.kind = 1) (w : Bytes) : isR s w = false := by
 cases hi : isR s w
 ·rfl
 ·rcases (is_kind hi).2.2.2 with h' | h' <;> omega
theorem step_elem {k : Nat} {xs : List AVal} {n : Int} {y : AVal} {P : AVal → Prop} (h0 : 0 ≤ n) (h : xs[n.toNat]? = some y) (hk : y.cells.length = k) (hp : P y) : 0 ≤ n ∧ (match xs[n.toNat]? with
  | some y => y.cells.length = k ∧ P y
  | none => False) := ⟨h0, by rw [h]; exact ⟨hk, hp⟩⟩
theorem ins_len {α : Type} (l : List α) (i : Nat) (x : α) : (insR l i x).length = l.length + 1 := by
 simp only [insR, List.length_append, List.length_take, List.length_drop, List.length_cons, List.length_nil]
 omega
theorem commaR_eq (s : RS) : commaR s = if isR s kRb then s else if isR (takeR s kComma) kRb then giveR (takeR s kComma) 2 else takeR s kComma := rfl
theorem plain_step (F : RFns T) (n : Nat) (ih : ∀ m, m ≤ n → TySpec T m) (d : Nat) (s : RS) (hs : s.ok) (hd : d ≤ 64) (hf : 6 * s.rem + 4 ≤ n + 1) : RC T.L 96 [.int .i64 d] s (plainR (n + 1) d s).1.av (plainR (n + 1) d s).2 := by
 refine RC.of 0 (low_ta _ _) (acallsG F.h96 (by simp [c_96]) ?_)
 obtain ⟨R, hR⟩ : ∃ R, plainR (n + 1) d s = R := ⟨_, rfl⟩
 rw [hR]
 rw [plainR] at hR
 conv => whnf
 cases hb : s.bad
 ·rw [if_neg (by simp [hb])] at hR
  conv => whnf
  refine step_tok hs ?_
  conv => whnf
  cases hk : (s.tok.kind == 1)
  ·rw [if_neg (by simpa using hk)] at hR
   conv => whnf
   intro I hI hG
   have base : ∀ (i : Int), Weak T.L (.agg [.int .i64 i, .str [], .lst [] .nil, .lst [] .nil]) (TA.mk i [] [] []).av := fun i => by
    rw [TA.av]
    exact Weak.agg ⟨Weak.refl _, Weak.refl _, Weak.tok _ _, Weak.tok _ _, trivial⟩
   refine hI _ _ ?_
   conv => whnf
   refine ⟨by decide, ?_⟩
   conv => whnf
   refine ⟨rfl, ?_⟩
   conv => whnf
   refine F.is hs kInt _ rfl ?_
   cases h0 : isR s kInt
   ·rw [if_neg (by simp [h0])] at hR
    conv => whnf
    refine hI _ _ ?_
    conv => whnf
    refine ⟨by decide, ?_⟩
    conv => whnf
    refine ⟨rfl, ?_⟩
    conv => whnf
    refine F.is hs kBool _ rfl ?_
    cases h1 : isR s kBool
    ·rw [if_neg (by simp [h1])] at hR
     conv => whnf
     refine hI _ _ ?_
     conv => whnf
     refine ⟨by decide, ?_⟩
     conv => whnf
     refine ⟨rfl, ?_⟩
     conv => whnf
     refine F.is hs kText _ rfl ?_
     cases h2 : isR s kText
     ·rw [if_neg (by simp [h2])] at hR
      conv => whnf
      refine hI _ _ ?_
      conv => whnf
      refine ⟨by decide, ?_⟩
      conv => whnf
      refine ⟨rfl, ?_⟩
      conv => whnf
      refine F.is hs kDyn _ rfl ?_
      cases h3 : isR s kDyn
      ·rw [if_neg (by simp [h3])] at hR
       conv => whnf
       refine hI _ _ ?_
       conv => whnf
       clear hI hG
       refine F.is hs kLb _ rfl ?_
       cases h4 : isR s kLb
       ·rw [if_neg (by simp [h4])] at hR
        conv => whnf
        refine F.take hs kLp _ rfl ?_
        have k1 := take_le hs kLp
        have hs1 := hs.of k1
        have hr : (takeR s kLp).bad = false → (takeR s kLp).rem + 1 = s.rem := fun h => take_rem hs (take_bad h).2.1
        generalize takeR s kLp = s1 at k1 hs1 hr hR ⊢
        conv => whnf
        cases hb1 : s1.bad
        ·rw [if_neg (by simp [hb1])] at hR
         have hr := hr hb1
         conv => whnf
         rw [addN (by omega)]
         have ha := (ih n (Nat.le_refl _)).type (d + 1) s1 hs1 (by omega) (by omega)
         have hle := (le_types n).1 (d + 1) s1 hs1
         generalize typeR n (d + 1) s1 = q at ha hle hR ⊢
         subst hR
         obtain ⟨⟨k', nm', ns', l'⟩, s2⟩ := q
         dsimp only at ha hle ⊢
         refine ha.to (low1 (.int _ _)) (low_ta _ _) _ rfl ?_
         conv => whnf
         refine F.take (hs1.of hle) kRp _ rfl ?_
         conv => whnf
         exact ⟨_, rfl, Weak.refl _, rfl⟩
        ·rw [if_pos hb1] at hR
         subst hR
         conv => whnf
         exact ⟨_, rfl, weak_zeroT, rfl⟩
       ·rw [if_pos h4] at hR
        conv => whnf
        refine F.take hs kLb _ rfl ?_
        have k1 := take_le hs kLb
        have hs1 := hs.of k1
        have hr := take_rem hs h4
        generalize takeR s kLb = s1 at k1 hs1 hr hR ⊢
        conv => whnf
        intro I hI hG
        have key : ∀ (m : Nat) (s' : RS) (names : List Bytes) (l : List TA) (e : Env), m ≤ n → s'.ok → 6 * s'.rem + 4 ≤ m → l.length = names.length → names.length + s'.rem ≤ 2 ^ 34 → R = fieldsR m d (.mk 5 [] names l) s' →
          I (setL e [(0, .ptr 1 0), (1, .int .i64 d), (4, .ptr 2 0), (9, .ptr 4 0)]) [dobjR s', robj s', .cells [.int .i64 0, .str [], .lst [] .nil, .lst [] .nil] 109,
           .cells [.int .i64 s.tok.kind, .int .i64 s.tok.at_, .str s.tok.text] 86, .cells [.int .i64 5, .str [], .lst (strA names) .none, .lst (TA.avs l) .none] 109] := by
         intro m
         induction m with
         | zero => intro s' names l e _ _ h; omega
         | succ m ihm =>
          intro s' names l e hm hs' hf' hl1 hl2 hv
          rw [fieldsR] at hv
          have next : ∀ (s2 : RS) (names2 : List Bytes) (l2 : List TA) (e2 : Env) (H2 : Heap), s2.ok → 6 * s2.rem + 4 ≤ m → l2.length = names2.length → names2.length + s2.rem ≤ 2 ^ 34 → R = fieldsR m d (.mk 5 [] names2 l2) s2 →
            H2.take 5 = [dobjR s2, robj s2, .cells [.int .i64 0, .str [], .lst [] .nil, .lst [] .nil] 109,
             .cells [.int .i64 s.tok.kind, .int .i64 s.tok.at_, .str s.tok.text] 86, .cells [.int .i64 5, .str [], .lst (strA names2) .none, .lst (TA.avs l2) .none] 109] →
            envHas e2 [(0, .ptr 1 0), (1, .int .i64 d), (4, .ptr 2 0), (9, .ptr 4 0)] → I e2 H2 := fun s2 names2 l2 e2 H2 c1 c2 c3 c4 c5 c6 c7 =>
           hG.keep [(0, .ptr 1 0), (1, .int .i64 d), (4, .ptr 2 0), (9, .ptr 4 0)] [dobjR s2, robj s2, .cells [.int .i64 0, .str [], .lst [] .nil, .lst [] .nil] 109,
             .cells [.int .i64 s.tok.kind, .int .i64 s.tok.at_, .str s.tok.text] 86, .cells [.int .i64 5, .str [], .lst (strA names2) .none, .lst (TA.avs l2) .none] 109] (Nat.le_refl 5) c6 c7 ⟨.ptr _ _ (by decide : 1 < 5), .int _ _, .ptr _ _ (by decide : 2 < 5), .ptr _ _ (by decide : 4 < 5), trivial⟩
            ⟨dobj_low _ _ _, low_robjN (n := 5) (by decide) _, lowC ⟨.int _ _, .str _, .lst _ _ trivial low0, .lst _ _ trivial low0, trivial⟩, lowC ⟨.int _ _, .int _ _, .str _, trivial⟩, lowC ⟨.int _ _, .str _, low_strs' _ _ _ trivial, .lst _ _ trivial (low_tas _ _), trivial⟩, trivial⟩
            (ihm s2 names2 l2 _ (by omega) c1 c2 c3 c4 c5)
          apply hI
          conv => whnf
          cases hb' : s'.bad
          ·conv => whnf
           refine F.is hs' kRb _ rfl ?_
           cases hi' : isR s' kRb
           ·rw [if_pos (by simp [hb', hi'])] at hv
            conv => whnf
            refine F.name hs' _ rfl ?_
            have n1 := name_le hs'
            have n3 := twice_le hs' kColon
            obtain ⟨p, hp⟩ : ∃ p, nameR s' = p := ⟨_, rfl⟩
            rw [hp] at hv n1 n3 ⊢
            have hs2 := hs'.of n1
            conv => whnf
            refine F.take hs2 kColon _ rfl ?_
            have n4 := take_le hs2 kColon
            obtain ⟨s3, hs3e⟩ : ∃ s3, takeR p.2 kColon = s3 := ⟨_, rfl⟩
            rw [hs3e] at hv n3 n4 ⊢
            have hs3 := hs2.of n4
            conv => whnf
            cases hb3 : s3.bad
            ·rw [if_neg (by simp [hb3])] at hv
             have hr3 : s3.rem + 2 = s'.rem := by
              rw [← hs3e, ← hp]
              exact two_rem hs' kColon (by rw [hp, hs3e]; exact hb3)
             have hle3 := n3 hb3
             conv => whnf
             refine (has_spec F.h85 names p.1.text (by omega) .none trivial).to ?_
             cases ht : hasR names p.1.text
             case' true =>
              rw [if_pos (by exact ht)] at hv
              conv => whnf
              refine app_diag hs3 ⟨p.1.at_, 4, p.1.text⟩ rfl rfl ?_
              conv => whnf
              rw [addN (by omega)]
              have hs4 := hs'.of hle3
              have hq := (ih m (by omega)).type (d + 1) (twiceR s3 p.1) hs4 (by omega) (by show 6 * s3.rem + 6 ≤ m; omega)
              have hle4 := (le_types m).1 (d + 1) (twiceR s3 p.1) hs4
              have hre4 := hle4.rem
              have hre5 : (twiceR s3 p.1).rem = s3.rem := rfl
              obtain ⟨q, hqe⟩ : ∃ q, typeR m (d + 1) (twiceR s3 p.1) = q := ⟨_, rfl⟩
              rw [hqe] at hv hq hle4 hre4
              obtain ⟨⟨k', nm', ns', l'⟩, s5⟩ := q
              dsimp only at hv hq hle4 hre4
              refine hq.to (low1 (.int _ _)) (low_ta _ _) _ rfl ?_
              have hs5 := hs4.of hle4
              have hv2 : R = fieldsR m d (.mk 5 [] names l) (commaR s5) := hv
              have hl3 : l.length = names.length := hl1
              have hl4 : names.length ≤ names.length + 1 := by omega
              conv => whnf
             case' false =>
              rw [if_neg (by rw [show TA.names (.mk 5 [] names l) = names from rfl, ht]; simp)] at hv
              conv => whnf
              rw [addN (by omega)]
              have hq := (ih m (by omega)).type (d + 1) s3 hs3 (by omega) (by omega)
              have hle4 := (le_types m).1 (d + 1) s3 hs3
              have hre4 := hle4.rem
              obtain ⟨q, hqe⟩ : ∃ q, typeR m (d + 1) s3 = q := ⟨_, rfl⟩
              rw [hqe] at hv hq hle4 hre4
              obtain ⟨⟨k', nm', ns', l'⟩, s5⟩ := q
              dsimp only at hv hq hle4 hre4
              refine hq.to (low1 (.int _ _)) (low_ta _ _) _ rfl ?_
              have hs5 := hs3.of hle4
              conv => whnf
              refine (insert_spec F.h104 5 [] names l p.1.text (.mk k' nm' ns' l') hl1 (by omega) k' nm' ns' l' rfl).to ?_
              have hv2 : R = fieldsR m d (.mk 5 [] (insR names (lowR names p.1.text) p.1.text) (insR l (lowR names p.1.text) (.mk k' nm' ns' l'))) (commaR s5) := hv
              have hl3 : (insR l (lowR names p.1.text) (.mk k' nm' ns' l')).length = (insR names (lowR names p.1.text) p.1.text).length := by rw [ins_len, ins_len, hl1]
              have hl4 : (insR names (lowR names p.1.text) p.1.text).length ≤ names.length + 1 := by rw [ins_len]; omega
              conv => whnf
             all_goals
              refine F.is hs5 kRb _ rfl ?_
              have hc := commaR_eq s5
              cases hi5 : isR s5 kRb
              ·rw [hi5, if_neg (by simp)] at hc
               conv => whnf
               refine F.take hs5 kComma _ rfl ?_
               have n6 := take_le hs5 kComma
               have hr6 := n6.rem
               generalize takeR s5 kComma = s6 at n6 hc hr6 ⊢
               have hs6 := hs5.of n6
               conv => whnf
               refine F.is hs6 kRb _ rfl ?_
               cases hi6 : isR s6 kRb
               ·rw [hi6, if_neg (by simp)] at hc
                rw [hc] at hv2
                conv => whnf
                exact next s6 _ _ _ _ hs6 (by omega) hl3 (by omega) hv2 rfl ⟨rfl, rfl, rfl, rfl, trivial⟩
               ·rw [hi6, if_pos rfl] at hc
                rw [hc] at hv2
                conv => whnf
                refine F.give hs6 2 _ rfl ?_
                conv => whnf
                have hr7 := (give_le hs6 2).rem
                exact next (giveR s6 2) _ _ _ _ (hs6.of (give_le hs6 2)) (by omega) hl3 (by omega) hv2 rfl ⟨rfl, rfl, rfl, rfl, trivial⟩
              ·rw [hi5, if_pos rfl] at hc
               rw [hc] at hv2
               conv => whnf
               exact next s5 _ _ _ _ hs5 (by omega) hl3 (by omega) hv2 rfl ⟨rfl, rfl, rfl, rfl, trivial⟩
            ·rw [if_pos hb3] at hv
             subst hv
             conv => whnf
             exact ⟨_, rfl, weak_zeroT, rfl⟩
           ·rw [if_neg (by simp [hi'])] at hv
            subst hv
            conv => whnf
            refine F.take hs' kRb _ rfl ?_
            conv => whnf
            exact ⟨_, rfl, Weak.refl _, rfl⟩
          ·rw [if_neg (by simp [hb'])] at hv
           subst hv
           conv => whnf
           refine F.take hs' kRb _ rfl ?_
           conv => whnf
           exact ⟨_, rfl, Weak.refl _, rfl⟩
        refine hG.nextS [(0, .ptr 1 0), (1, .int .i64 d), (4, .ptr 2 0), (9, .ptr 4 0)] [dobjR s1, robj s1, .cells [.int .i64 0, .str [], .lst [] .nil, .lst [] .nil] 109,
           .cells [.int .i64 s.tok.kind, .int .i64 s.tok.at_, .str s.tok.text] 86, .cells [.int .i64 5, .str [], .lst (strA []) .none, .lst (TA.avs []) .none] 109]
          [dobjR s1, robj s1, .cells [.int .i64 0, .str [], .lst [] .nil, .lst [] .nil] 109,
           .cells [.int .i64 s.tok.kind, .int .i64 s.tok.at_, .str s.tok.text] 86, .cells [.int .i64 5, .str [], .lst [] .nil, .lst [] .nil] 109] [] rfl (Nat.le_refl _) ?_ ?_ ?_ ?_
        ·exact ⟨WeakO.refl _, WeakO.refl _, WeakO.refl _, WeakO.refl _, ⟨rfl, Weak.refl _, Weak.refl _, Weak.tok _ _, Weak.tok _ _, trivial⟩, trivial⟩
        ·exact slots_of ⟨rfl, rfl, rfl, rfl, trivial⟩ ⟨.ptr _ _ (by decide : 1 < 5), .int _ _, .ptr _ _ (by decide : 2 < 5), .ptr _ _ (by decide : 4 < 5), trivial⟩
        ·exact ⟨dobj_low _ _ _, low_robjN (n := 5) (by decide) _, lowC ⟨.int _ _, .str _, .lst _ _ trivial low0, .lst _ _ trivial low0, trivial⟩, lowC ⟨.int _ _, .int _ _, .str _, trivial⟩, lowC ⟨.int _ _, .str _, low_strs' _ _ _ trivial, .lst _ _ trivial (low_tas _ _), trivial⟩, trivial⟩
        ·refine key n s1 [] [] _ (Nat.le_refl _) hs1 (by omega) rfl ?_ hR.symm
         have := hs.len
         unfold RS.rem at *
         simp
         omega
      ·rw [if_pos h3] at hR
       subst hR
       conv => whnf
       refine ⟨by decide, ?_⟩
       conv => whnf
       refine ⟨rfl, ?_⟩
       conv => whnf
       refine F.take hs kDyn _ rfl ?_
       conv => whnf
       exact ⟨_, rfl, base 4, rfl⟩
     ·rw [if_pos h2] at hR
      subst hR
      conv => whnf
      refine ⟨by decide, ?_⟩
      conv => whnf
      refine ⟨rfl, ?_⟩
      conv => whnf
      refine F.take hs kText _ rfl ?_
      conv => whnf
      exact ⟨_, rfl, base 3, rfl⟩
    ·rw [if_pos h1] at hR
     subst hR
     conv => whnf
     refine ⟨by decide, ?_⟩
     conv => whnf
     refine ⟨rfl, ?_⟩
     conv => whnf
     refine F.take hs kBool _ rfl ?_
     conv => whnf
     exact ⟨_, rfl, base 2, rfl⟩
   ·rw [if_pos h0] at hR
    subst hR
    conv => whnf
    refine ⟨by decide, ?_⟩
    conv => whnf
    refine ⟨rfl, ?_⟩
    conv => whnf
    refine F.take hs kInt _ rfl ?_
    conv => whnf
    exact ⟨_, rfl, base 1, rfl⟩
  ·rw [if_pos (by simpa using hk)] at hR
   subst hR
   conv => whnf
   rw [addN hs.i]
   refine ⟨_, rfl, ?_, ?_⟩
   ·rw [TA.av]
    exact Weak.agg ⟨Weak.refl _, Weak.refl _, Weak.tok _ _, Weak.tok _ _, trivial⟩
   ·rfl
 ·rw [if_pos hb] at hR
  subst hR
  conv => whnf
  exact ⟨_, rfl, weak_zeroT, rfl⟩
theorem ty_all (F : RFns T) : ∀ n, TySpec T n := fun n => Nat.strongRecOn n fun n ih => by
 cases n with
 | zero => exact ⟨fun d s hs hd hf => by omega, fun d s hs hd hf => by omega, fun d s hs hd hf => by omega⟩
 | succ n =>
  have ih' : ∀ m, m ≤ n → TySpec T m := fun m hm => ih m (by omega)
  exact ⟨fun d s hs hd hf => type_step F n ih' d s hs hd hf, fun d s hs hd hf => arrow_step F n ih' d s hs hd hf, fun d s hs hd hf => plain_step F n ih' d s hs hd hf⟩
end Go.Ag
/- Package parse: the parser's small methods. -/
namespace Go.Ag
open Go
variable {T : Tab} {L : Lnk}
def pobj (s : RS) : AObj := .cells [.lst (s.toks.map TokA.av) .none, .int .i64 s.i, .lst (s.diags.map DiagA.av) (dtok s.diags.length 0)] 280
def pheap (s : RS) : Heap := [dobj s.diags.length 333, pobj s]
def gup : AVal := .iface 301 (.agg [])
def outP (b : Bool) (y : AVal) : ARet := match b with
 | true => .pan gup
 | false => .ret y
theorem low_gup {n : Nat} : Low n gup := .iface _ _ (.agg _ low0)
theorem low_outP {n : Nat} {b : Bool} {y : AVal} (h : Low n y) : Low n (outP b y).v := by cases b <;> first | exact h | exact low_gup
theorem low_pobj (s : RS) : LowO 2 (pobj s) := lowC ⟨low_toks _ _ _ trivial, .int _ _, low_diags _ _ _ (dtok_low (by omega)), trivial⟩
theorem low_pheap (s : RS) : ∀ o ∈ pheap s, LowO 2 o := fun o ho => by
 simp only [pheap, List.mem_cons, List.not_mem_nil, or_false] at ho
 rcases ho with rfl | rfl
 ·exact dobj_low _ _ _
 ·exact low_pobj s
def PC (L : Lnk) (f : Nat) (args : List AVal) (s : RS) (y : AVal) (s' : RS) : Prop := CallR L f (.ptr 1 0 :: args) (pheap s) (outP s'.bad y) (pheap s')
def PPost (L : Lnk) (s' : RS) (y : AVal) (r : ARet) (H' : Heap) : Prop := ∃ J, WeakR L r (outP s'.bad y) ∧ H' = pheap s' ++ J
theorem PC.of {f : Nat} {args : List AVal} {s s' : RS} {y : AVal} (k : Nat) (hy : Low 2 y) (h : ACalls L f (.ptr 1 0 :: args) (pheap s ++ List.replicate k .dead) (PPost L s' y)) : PC L f args s y s' :=
 CallR.of k rfl (low_outP hy) (low_pheap s') (h.mono fun r H' ⟨J, e2, e3⟩ => ⟨pheap s', J, e2, e3, rfl, fun i o o' h1 h2 => by rw [h1] at h2; cases h2; exact WeakO.refl o⟩)
theorem PC.to {f : Nat} {args : List AVal} {s s' : RS} {y : AVal} (h : PC L f args s y s') (hargs : ∀ x ∈ args, Low 2 x) (hy : Low 2 y) {H : Heap} {K KP : AVal → Heap → Prop} (J : Heap) (hH : H = pheap s ++ J)
  (hk : s'.bad = false → K y (pheap s' ++ J)) (hb : s'.bad = true → KP gup (pheap s' ++ J)) : ACalls L f (.ptr 1 0 :: args) H (contR K KP) := by
 subst hH
 refine (CallR.at h rfl (fun x hx => ?_) (low_pheap s) (low_outP hy) (low_pheap s') J).mono fun r H' ⟨e1, e2⟩ => ?_
 ·rcases List.mem_cons.1 hx with rfl | hx
  ·exact .ptr _ _ (by show 1 < 2; omega)
  ·exact hargs x hx
 ·subst e1 e2
  cases e : s'.bad
  ·exact hk e
  ·exact hb e
theorem PC.go {f : Nat} {args : List AVal} {s s' : RS} {y : AVal} (h : PC L f args s y s') (hs : s'.bad = false) (hargs : ∀ x ∈ args, Low 2 x) (hy : Low 2 y) {H : Heap} {K KP : AVal → Heap → Prop} (J : Heap) (hH : H = pheap s ++ J)
  (hk : K y (pheap s' ++ J)) : ACalls L f (.ptr 1 0 :: args) H (contR K KP) := PC.to h hargs hy J hH (fun _ => hk) fun e => by rw [hs] at e; cases e
theorem PPost.ret {s' : RS} {x y : AVal} {J H' : Heap} (hs : s'.bad = false) (hw : Weak L x y) (hH : H' = pheap s' ++ J) : PPost L s' y (.ret x) H' := ⟨J, by rw [hs]; exact hw, hH⟩
theorem PPost.pan {s' : RS} {y : AVal} {J H' : Heap} (hs : s'.bad = true) (hH : H' = pheap s' ++ J) : PPost L s' y (.pan gup) H' := ⟨J, by rw [hs]; exact Weak.refl _, hH⟩
theorem isR_bad {s : RS} (h : s.bad = true) (w : Bytes) : isR s w = false := by unfold isR; rw [h]; rfl
theorem giveR_bad {s : RS} (h : s.bad = true) (c : Int) : giveR s c = s := by unfold giveR; rw [if_pos h]
theorem takeR_bad {s : RS} (h : s.bad = true) (w : Bytes) : takeR s w = s := by unfold takeR; rw [isR_bad h, if_neg (by simp), giveR_bad h]
theorem nameR_bad {s : RS} (h : s.bad = true) : nameR s = (zeroTok, s) := by unfold nameR; rw [if_pos h]
theorem commaR_bad {s : RS} (h : s.bad = true) : commaR s = s := by unfold commaR; rw [isR_bad h, takeR_bad h, isR_bad h, if_neg (by simp), if_neg (by simp)]
theorem bad_types : ∀ n : Nat, (∀ (d : Nat) (s : RS), s.bad = true → (typeR n d s).2 = s) ∧ (∀ (d : Nat) (l : List TA) (s : RS), s.bad = true → (altsR n d l s).2 = s) ∧ (∀ (d : Nat) (s : RS), s.bad = true → (arrowR n d s).2 = s) ∧ (∀ (d : Nat) (s : RS), s.bad = true → (plainR n d s).2 = s) ∧ (∀ (d : Nat) (out : TA) (s : RS), s.bad = true → (fieldsR n d out s).2 = s) := by
 intro n
 induction n with
 | zero => exact ⟨fun d s h => by unfold typeR; rfl, fun d l s h => by unfold altsR; rfl, fun d s h => by unfold arrowR; rfl, fun d s h => by unfold plainR; rfl, fun d o s h => by unfold fieldsR; rfl⟩
 | succ n ih =>
  obtain ⟨h1, h2, h3, h4, h5⟩ := ih
  refine ⟨fun d s h => ?_, fun d l s h => ?_, fun d s h => ?_, fun d s h => ?_, fun d out s h => ?_⟩
  ·unfold typeR
   rw [giveR_bad h, show (if 64 < d then s else s) = s from by split <;> rfl, if_pos h]
  ·unfold altsR
   rw [isR_bad h, if_neg (by simp)]
  ·unfold arrowR
   rw [h4 d s h, isR_bad h, if_neg (by simp), h4 d s h]
  ·unfold plainR
   rw [if_pos h]
  ·unfold fieldsR
   rw [h, isR_bad h, if_neg (by simp), takeR_bad h]
structure ParFns (T : Tab) : Prop where
 h184 : T.has 184 c_184
 h218 : T.has 218 c_218
 h219 : T.has 219 c_219
 h220 : T.has 220 c_220
 h221 : T.has 221 c_221
 h248 : T.has 248 c_248
 h249 : T.has 249 c_249
 h250 : T.has 250 c_250
 h259 : T.has 259 c_259
 h260 : T.has 260 c_260
 h293 : T.has 293 c_293
 h306 : T.has 306 c_306
 h307 : T.has 307 c_307
theorem here_spec (F : ParFns T) (s : RS) (hs : s.ok) (hb : s.bad = false) : PC T.L 218 [] s s.tok.av s := by
 refine PC.of 0 (low_tok _ _) (acallsG F.h218 (by simp [c_218]) ?_)
 conv => whnf
 refine step_tok hs ?_
 conv => whnf
 exact PPost.ret hb (Weak.refl _) rfl
theorem ParFns.here (F : ParFns T) {s : RS} (hs : s.ok) (hb : s.bad = false) {H : Heap} {K KP : AVal → Heap → Prop} (J : Heap) (hH : H = pheap s ++ J) (hk : K s.tok.av (pheap s ++ J)) : ACalls T.L 218 [.ptr 1 0] H (contR K KP) :=
 (here_spec F s hs hb).go hb low0 (low_tok _ _) J hH hk
theorem pis_spec (F : ParFns T) (s : RS) (hs : s.ok) (hb : s.bad = false) (w : Bytes) : PC T.L 250 [.str w] s (.bool (isR s w)) s := by
 refine PC.of 0 (.bool _) (acallsG F.h250 (by simp [c_250]) ?_)
 have hv : isR s w = ((s.tok.kind == 2 || s.tok.kind == 5) && s.tok.text == w) := by unfold isR; rw [hb]; rfl
 rw [hv]
 clear hv
 conv => whnf
 refine F.here hs hb _ rfl ?_
 conv => whnf
 cases s.tok.kind == 2
 ·conv => whnf
  cases s.tok.kind == 5
  ·conv => whnf
   exact PPost.ret hb (Weak.refl _) rfl
  ·conv => whnf
   exact PPost.ret hb (Weak.refl _) rfl
 ·conv => whnf
  exact PPost.ret hb (Weak.refl _) rfl
theorem ParFns.is (F : ParFns T) {s : RS} (hs : s.ok) (hb : s.bad = false) (w : Bytes) {H : Heap} {K KP : AVal → Heap → Prop} (J : Heap) (hH : H = pheap s ++ J) (hk : K (.bool (isR s w)) (pheap s ++ J)) : ACalls T.L 250 [.ptr 1 0, .str w] H (contR K KP) :=
 (pis_spec F s hs hb w).go hb (low1 (.str _)) (.bool _) J hH hk
def takeP (s : RS) (w : Bytes) : RS := if isR s w then { s with i := s.i + 1 } else s
theorem takeP_yes {s : RS} {w : Bytes} (h : isR s w = true) : takeP s w = takeR s w := by rw [takeP, if_pos h, take_yes h]
theorem takeP_no {s : RS} {w : Bytes} (h : isR s w = false) : takeP s w = s := by rw [takeP, if_neg (by simp [h])]
theorem takeP_bad {s : RS} (w : Bytes) : (takeP s w).bad = s.bad := by unfold takeP; split <;> rfl
theorem ptake_spec (F : ParFns T) (s : RS) (hs : s.ok) (hb : s.bad = false) (w : Bytes) : PC T.L 221 [.str w] s (.bool (isR s w)) (takeP s w) := by
 refine PC.of 0 (.bool _) (acallsG F.h221 (by simp [c_221]) ?_)
 conv => whnf
 refine F.is hs hb w _ rfl ?_
 conv => whnf
 cases h : isR s w
 ·rw [takeP_no h]
  conv => whnf
  exact PPost.ret hb (Weak.refl _) rfl
 ·rw [takeP, if_pos h]
  conv => whnf
  rw [addN hs.i]
  exact PPost.ret hb (Weak.refl _) rfl
theorem ParFns.take (F : ParFns T) {s : RS} (hs : s.ok) (hb : s.bad = false) (w : Bytes) {H : Heap} {K KP : AVal → Heap → Prop} (J : Heap) (hH : H = pheap s ++ J)
  (hn : isR s w = false → K (.bool false) (pheap s ++ J)) (hy : isR s w = true → K (.bool true) (pheap (takeR s w) ++ J)) : ACalls T.L 221 [.ptr 1 0, .str w] H (contR K KP) :=
 (ptake_spec F s hs hb w).go (by rw [takeP_bad]; exact hb) (low1 (.str _)) (.bool _) J hH (by
  cases h : isR s w
  ·rw [takeP_no h]; exact hn h
  ·rw [takeP_yes h]; exact hy h)
theorem papp_diag {s : RS} (hs : s.ok) (d : DiagA) {y : AVal} (hy : y = d.av) {tk0 : Tok} {H : Heap} {K : AVal → Heap → Prop} (h0 : H[0]? = some (dobj s.diags.length 333))
  (h : K (.lst ((s.diags ++ [d]).map DiagA.av) (dtok (s.diags ++ [d]).length 0)) (H.set 0 (dobj (s.diags ++ [d]).length 333))) : appK 3 32 333 (.lst (s.diags.map DiagA.av) (dtok s.diags.length 0)) (.lst [y] tk0) H K := by
 have hl : s.diags.length ≤ 2 ^ 35 := by have := hs.room; unfold RS.pot at this; omega
 have e1 : s.diags.length = (s.diags.map DiagA.av).length := by simp
 have := app_slot (xs := s.diags.map DiagA.av) (ys := [y]) (k := 3) (bytes := 32) (t := 333) (id := 0) (tk0 := tk0) (H := H) (K := K) (sized_diags _) (sized_one (by rw [hy]; rfl)) (by simp; omega) (by simp; omega) (by simp) (by rw [← e1]; exact h0) (by
  rw [hy]
  rw [List.map_append, List.length_append, e1] at h
  rw [List.length_append]
  exact h)
 rw [← e1] at this
 exact this
theorem fail_spec (F : ParFns T) (s : RS) (hs : s.ok) (hb : s.bad = false) (code : Int) (y : AVal) (hy : Low 2 y) : PC T.L 248 [.int .i64 code] s y (giveR s code) := by
 refine PC.of 0 hy (acallsG F.h248 (by simp [c_248]) ?_)
 have hv : giveR s code = { s with diags := s.diags ++ [⟨s.tok.at_, code, if code = 2 then s.tok.text else []⟩], bad := true } := by unfold giveR; rw [hb]; rfl
 rw [hv]
 clear hv
 conv => whnf
 refine F.here hs hb _ rfl ?_
 conv => whnf
 cases h2 : (code == 2)
 ·rw [if_neg (by simpa using h2)]
  conv => whnf
  refine papp_diag hs ⟨s.tok.at_, code, []⟩ rfl rfl ?_
  conv => whnf
  exact PPost.pan rfl rfl
 ·rw [if_pos (by simpa using h2)]
  conv => whnf
  refine papp_diag hs ⟨s.tok.at_, code, s.tok.text⟩ rfl rfl ?_
  conv => whnf
  exact PPost.pan rfl rfl
theorem ParFns.fail (F : ParFns T) {s : RS} (hs : s.ok) (hb : s.bad = false) (code : Int) {H : Heap} {K KP : AVal → Heap → Prop} (J : Heap) (hH : H = pheap s ++ J) (hk : KP gup (pheap (giveR s code) ++ J)) : ACalls T.L 248 [.ptr 1 0, .int .i64 code] H (contR K KP) :=
 (fail_spec F s hs hb code (.tup []) low_unit).to (low1 (.int _ _)) low_unit J hH (fun h => by rw [give_bad] at h; cases h) fun _ => hk
theorem want_spec (F : ParFns T) (s : RS) (hs : s.ok) (hb : s.bad = false) (w : Bytes) : PC T.L 260 [.str w] s (.tup []) (takeR s w) := by
 refine PC.of 0 low_unit (acallsG F.h260 (by simp [c_260]) ?_)
 conv => whnf
 refine F.take hs hb w _ rfl (fun h => ?_) fun h => ?_
 ·conv => whnf
  refine F.fail hs hb 2 _ rfl ?_
  conv => whnf
  rw [takeR, if_neg (by simp [h])]
  exact PPost.pan (give_bad _ _) rfl
 ·conv => whnf
  exact PPost.ret (by rw [take_yes h]; exact hb) (Weak.refl _) rfl
theorem ParFns.want (F : ParFns T) {s : RS} (hs : s.ok) (hb : s.bad = false) (w : Bytes) {H : Heap} {K KP : AVal → Heap → Prop} (J : Heap) (hH : H = pheap s ++ J)
  (hk : (takeR s w).bad = false → K (.tup []) (pheap (takeR s w) ++ J)) (hp : (takeR s w).bad = true → KP gup (pheap (takeR s w) ++ J)) : ACalls T.L 260 [.ptr 1 0, .str w] H (contR K KP) :=
 (want_spec F s hs hb w).to (low1 (.str _)) low_unit J hH hk hp
theorem pname_spec (F : ParFns T) (s : RS) (hs : s.ok) (hb : s.bad = false) : PC T.L 259 [] s (nameR s).1.av (nameR s).2 := by
 refine PC.of 0 (low_tok _ _) (acallsG F.h259 (by simp [c_259]) ?_)
 have hv : nameR s = if s.tok.kind = 1 then (s.tok, { s with i := s.i + 1 }) else (zeroTok, giveR s 2) := by unfold nameR; rw [if_neg (by simp [hb])]
 rw [hv]
 clear hv
 conv => whnf
 refine F.here hs hb _ rfl ?_
 conv => whnf
 cases h : (s.tok.kind != 1)
 ·rw [if_pos (by simpa using h)]
  conv => whnf
  rw [addN hs.i]
  exact PPost.ret hb (Weak.refl _) rfl
 ·rw [if_neg (by simpa using h)]
  conv => whnf
  refine F.fail hs hb 2 _ rfl ?_
  conv => whnf
  exact PPost.pan (give_bad _ _) rfl
theorem ParFns.name (F : ParFns T) {s : RS} (hs : s.ok) (hb : s.bad = false) {H : Heap} {K KP : AVal → Heap → Prop} (J : Heap) (hH : H = pheap s ++ J)
  (hk : (nameR s).2.bad = false → K (nameR s).1.av (pheap (nameR s).2 ++ J)) (hp : (nameR s).2.bad = true → KP gup (pheap (nameR s).2 ++ J)) : ACalls T.L 259 [.ptr 1 0] H (contR K KP) :=
 (pname_spec F s hs hb).to low0 (low_tok _ _) J hH hk hp
def deepP (d : Nat) (s : RS) : RS := if 64 < d then giveR s 3 else s
theorem deep_spec (F : ParFns T) (s : RS) (hs : s.ok) (hb : s.bad = false) (d : Nat) : PC T.L 219 [.int .i64 d] s (.tup []) (deepP d s) := by
 refine PC.of 0 low_unit (acallsG F.h219 (by simp [c_219]) ?_)
 conv => whnf
 by_cases h : 64 < d
 ·rw [show decide ((d : Int) > 64) = true from by simp; omega, deepP, if_pos h]
  conv => whnf
  refine F.fail hs hb 3 _ rfl ?_
  conv => whnf
  exact PPost.pan (give_bad _ _) rfl
 ·rw [show decide ((d : Int) > 64) = false from by simp; omega, deepP, if_neg h]
  conv => whnf
  exact PPost.ret hb (Weak.refl _) rfl
theorem ParFns.deep (F : ParFns T) {s : RS} (hs : s.ok) (hb : s.bad = false) (d : Nat) {H : Heap} {K KP : AVal → Heap → Prop} (J : Heap) (hH : H = pheap s ++ J)
  (hk : d ≤ 64 → K (.tup []) (pheap s ++ J)) (hp : 64 < d → KP gup (pheap (giveR s 3) ++ J)) : ACalls T.L 219 [.ptr 1 0, .int .i64 d] H (contR K KP) :=
 (deep_spec F s hs hb d).to (low1 (.int _ _)) low_unit J hH (fun h => by
  unfold deepP at h ⊢
  split at h
  ·rw [give_bad] at h; cases h
  ·rename_i h'; rw [if_neg h']; exact hk (by omega)) fun h => by
  unfold deepP at h ⊢
  split at h
  ·rename_i h'; rw [if_pos h']; exact hp h'
  ·rw [hb] at h; cases h
end Go.Ag
/- Package parse: arrow, typ. -/
namespace Go.Ag
open Go
variable {T : Tab} {L : Lnk}
structure PTy (T : Tab) (n : Nat) : Prop where
 typ : ∀ (d : Nat) (s : RS), s.ok → s.bad = false → d ≤ 65 → 6 * s.rem + 6 ≤ n → PC T.L 184 [.int .i64 d] s (typeR n d s).1.av (typeR n d s).2
 arrow : ∀ (d : Nat) (s : RS), s.ok → s.bad = false → d ≤ 64 → 6 * s.rem + 5 ≤ n → PC T.L 220 [.int .i64 d] s (arrowR n d s).1.av (arrowR n d s).2
 plain : ∀ (d : Nat) (s : RS), s.ok → s.bad = false → d ≤ 64 → 6 * s.rem + 4 ≤ n → PC T.L 249 [.int .i64 d] s (plainR n d s).1.av (plainR n d s).2
theorem parrow_step (F : ParFns T) (n : Nat) (ih : ∀ m, m ≤ n → PTy T m) (d : Nat) (s : RS) (hs : s.ok) (hb : s.bad = false) (hd : d ≤ 64) (hf : 6 * s.rem + 5 ≤ n + 1) : PC T.L 220 [.int .i64 d] s (arrowR (n + 1) d s).1.av (arrowR (n + 1) d s).2 := by
 refine PC.of 0 (low_ta _ _) (acallsG F.h220 (by simp [c_220]) ?_)
 have hp := (ih n (Nat.le_refl _)).plain d s hs hb hd (by omega)
 have hle := (le_types n).2.2.2.1 d s hs
 rw [arrowR]
 generalize plainR n d s = p at hp hle ⊢
 obtain ⟨⟨k, nm, ns, l⟩, s1⟩ := p
 dsimp only at hp hle ⊢
 have hs1 := hs.of hle
 conv => whnf
 refine hp.to (low1 (.int _ _)) (low_ta _ _) _ rfl (fun hb1 => ?_) fun hb1 => ?_
 ·conv => whnf
  refine F.take hs1 hb1 kArr _ rfl (fun hi => ?_) fun hi => ?_
  ·rw [if_neg (by simp [hi])]
   conv => whnf
   exact PPost.ret hb1 (Weak.refl _) rfl
  ·rw [if_pos hi]
   have k2 := take_le hs1 kArr
   have hs2 := hs1.of k2
   have hr := take_rem hs1 hi
   have hr0 := hle.rem
   have hb2 : (takeR s1 kArr).bad = false := by rw [take_yes hi]; exact hb1
   generalize takeR s1 kArr = s2 at k2 hs2 hr hb2 ⊢
   conv => whnf
   rw [addN (by omega)]
   refine F.deep hs2 hb2 (d + 1) _ rfl (fun hd1 => ?_) fun hd1 => ?_
   ·rw [if_neg (by omega)]
    conv => whnf
    rw [addN (by omega)]
    have ha := (ih n (Nat.le_refl _)).arrow (d + 1) s2 hs2 hb2 (by omega) (by omega)
    generalize arrowR n (d + 1) s2 = q at ha ⊢
    obtain ⟨⟨k', nm', ns', l'⟩, s3⟩ := q
    dsimp only at ha ⊢
    refine ha.to (low1 (.int _ _)) (low_ta _ _) _ rfl (fun hb3 => ?_) fun hb3 => ?_
    ·conv => whnf
     refine ⟨⟨rfl, trivial⟩, ?_⟩
     conv => whnf
     refine PPost.ret hb3 ?_ rfl
     rw [TA.av]
     exact Weak.agg ⟨Weak.refl _, Weak.refl _, Weak.tok _ _, Weak.tok _ _, trivial⟩
    ·conv => whnf
     exact PPost.pan hb3 rfl
   ·rw [if_pos hd1]
    conv => whnf
    exact PPost.pan (give_bad _ _) rfl
 ·conv => whnf
  rw [isR_bad hb1, if_neg (by simp)]
  exact PPost.pan hb1 rfl
def tyEnd (m d : Nat) (l : List TA) (s : RS) : TA × RS := if isR s kBar = true ∨ 2 ≤ l.length then (.mk 7 [] [] (altsR m d l s).1, (altsR m d l s).2) else (l.headD zeroT, s)
theorem tyEnd_no {m d : Nat} {l : List TA} {s : RS} (h : isR s kBar = false) : tyEnd (m + 1) d l s = if 2 ≤ l.length then (.mk 7 [] [] l, s) else (l.headD zeroT, s) := by
 unfold tyEnd
 rw [altsR, if_neg (show ¬ isR s kBar = true by simp [h])]
 simp [h]
theorem tyEnd_yes {m d : Nat} {l : List TA} {s : RS} (h : isR s kBar = true) (hl : 1 ≤ l.length) : tyEnd (m + 1) d l s = tyEnd m d (l ++ [(arrowR m d (takeR s kBar)).1]) (arrowR m d (takeR s kBar)).2 := by
 unfold tyEnd
 rw [altsR, if_pos h, if_pos (.inl h), if_pos (.inr (by simp; omega))]
theorem tyEnd_bad {m d : Nat} {l : List TA} {s : RS} (h : s.bad = true) : (tyEnd m d l s).2 = s := by
 unfold tyEnd
 split
 ·exact (bad_types m).2.1 d l s h
 ·rfl
theorem typeR_end {n d : Nat} {s : RS} (hb : s.bad = false) (hd : d ≤ 64) : typeR (n + 1) d s = tyEnd n d [(arrowR n d s).1] (arrowR n d s).2 := by
 rw [typeR]
 simp only [if_neg (show ¬ 64 < d by omega)]
 rw [if_neg (by simp [hb])]
 unfold tyEnd
 cases h : isR (arrowR n d s).2 kBar <;> simp
theorem ptyp_step (F : ParFns T) (n : Nat) (ih : ∀ m, m ≤ n → PTy T m) (d : Nat) (s : RS) (hs : s.ok) (hb : s.bad = false) (hd : d ≤ 65) (hf : 6 * s.rem + 6 ≤ n + 1) : PC T.L 184 [.int .i64 d] s (typeR (n + 1) d s).1.av (typeR (n + 1) d s).2 := by
 refine PC.of 1 (low_ta _ _) (acallsG F.h184 (by simp [c_184]) ?_)
 conv => whnf
 refine F.deep hs hb d _ rfl (fun hd64 => ?_) fun hd64 => ?_
 ·rw [typeR_end hb hd64]
  have hp := (ih n (Nat.le_refl _)).arrow d s hs hb hd64 (by omega)
  have hle := (le_types n).2.2.1 d s hs
  generalize arrowR n d s = p at hp hle ⊢
  obtain ⟨⟨k, nm, ns, ll⟩, s1⟩ := p
  dsimp only at hp hle ⊢
  have hs1 := hs.of hle
  obtain ⟨R, hR⟩ : ∃ R, tyEnd n d [.mk k nm ns ll] s1 = R := ⟨_, rfl⟩
  rw [hR]
  conv => whnf
  refine hp.to (low1 (.int _ _)) (low_ta _ _) _ rfl (fun hb1 => ?_) fun hb1 => ?_
  ·conv => whnf
   intro I hI hG
   have key : ∀ (m : Nat) (s' : RS) (l : List TA) (e : Env), m ≤ n → s'.ok → s'.bad = false → 6 * s'.rem + 5 ≤ m → 1 ≤ l.length → l.length + s'.rem ≤ 2 ^ 34 → tyEnd m d l s' = R →
     I (setL e [(0, .ptr 1 0), (1, .int .i64 d), (4, .ptr 3 0), (5, .lst (TA.avs l) (btok 1 l.length 2))]) (pheap s' ++ [bobj 1 l.length 175, .cells [.int .i64 0, .str [], .lst [] .nil, .lst [] .nil] 175]) := by
    intro m
    induction m with
    | zero => intro s' l e _ _ _ h; omega
    | succ m ihm =>
     intro s' l e hm hs' hb' hf' hl1 hl2 hv
     apply hI
     conv => whnf
     refine F.take hs' hb' kBar _ rfl (fun hi' => ?_) fun hi' => ?_
     ·rw [tyEnd_no hi'] at hv
      conv => whnf
      rw [tas_len]
      cases hll : ((l.length : Int) == 1)
      ·rw [if_pos (by simp at hll; omega)] at hv
       subst hv
       conv => whnf
       refine PPost.ret hb' ?_ rfl
       rw [TA.av]
       exact Weak.agg ⟨Weak.refl _, Weak.refl _, Weak.tok _ _, Weak.tok _ _, trivial⟩
      ·rw [if_neg (by simp at hll; omega)] at hv
       subst hv
       have hll : l.length = 1 := by simp at hll; omega
       obtain ⟨⟨k1, nm1, ns1, ll1⟩, rfl⟩ := List.length_eq_one_iff.1 hll
       conv => whnf
       refine ⟨Int.le_refl _, rfl, ?_⟩
       conv => whnf
       exact PPost.ret hb' (Weak.refl _) rfl
     ·rw [tyEnd_yes hi' hl1] at hv
      have k2 := take_le hs' kBar
      have hs2 := hs'.of k2
      have hr := take_rem hs' hi'
      have hb2 : (takeR s' kBar).bad = false := by rw [take_yes hi']; exact hb'
      generalize takeR s' kBar = s2 at k2 hs2 hr hb2 hv ⊢
      conv => whnf
      have ha := (ih m (by omega)).arrow d s2 hs2 hb2 hd64 (by omega)
      have hle' := (le_types m).2.2.1 d s2 hs2
      generalize arrowR m d s2 = q at ha hle' hv ⊢
      obtain ⟨⟨k', nm', ns', l'⟩, s3⟩ := q
      dsimp only at ha hle' hv ⊢
      refine ha.to (low1 (.int _ _)) (low_ta _ _) _ rfl (fun hb3 => ?_) fun hb3 => ?_
      ·conv => whnf
       have e1 : l.length = (TA.avs l).length := (tas_len l).symm
       have hr3 := hle'.rem
       rw [e1]
       refine app_slotB (id := 2) (b := 1) (sized_tas l) (sized_one rfl) (by rw [tas_len]; simp; omega) (by rw [tas_len]; simp; omega) (by simp) (by rw [tas_len]; exact hl1) rfl ?_
       conv => whnf
       have e2 : TA.avs (l ++ [.mk k' nm' ns' l']) = TA.avs l ++ [.agg [.int .i64 k', .str nm', .lst (strA ns') .none, .lst (TA.avs l') .none]] := by rw [tas_append]; rfl
       have e3 : (l ++ [TA.mk k' nm' ns' l']).length = (TA.avs l ++ [AVal.agg [.int .i64 k', .str nm', .lst (strA ns') .none, .lst (TA.avs l') .none]]).length := by rw [← e2, tas_len]
       have hnext := fun e => ihm s3 (l ++ [.mk k' nm' ns' l']) e (by omega) (hs2.of hle') hb3 (by omega) (by simp) (by simp; omega) hv
       rw [e3, e2] at hnext
       exact inv_of [(0, .ptr 1 0), (1, .int .i64 d), (4, .ptr 3 0), (5, _)] ⟨rfl, rfl, rfl, rfl, trivial⟩ (hnext _)
      ·have hv2 : R.2 = s3 := by rw [← hv, tyEnd_bad hb3]
       rw [hv2]
       conv => whnf
       exact PPost.pan hb3 rfl
   exact inv_of [(0, .ptr 1 0), (1, .int .i64 d), (4, .ptr 3 0), (5, _)] ⟨rfl, rfl, rfl, rfl, trivial⟩ (key n s1 [.mk k nm ns ll] _ (Nat.le_refl _) hs1 hb1 (by have := hle.rem; omega) (by simp) (by have := hle.rem; have := hs.len; simp [RS.rem] at *; omega) hR)
  ·have hv2 : R.2 = s1 := by rw [← hR, tyEnd_bad hb1]
   rw [hv2]
   conv => whnf
   exact PPost.pan hb1 rfl
 ·rw [typeR]
  simp only [if_pos hd64]
  rw [if_pos (give_bad _ _)]
  conv => whnf
  exact PPost.pan (give_bad _ _) rfl
end Go.Ag
/- Package parse: fields, of whatever items. -/
namespace Go.Ag
open Go
variable {T : Tab} {L : Lnk}
def idxGo : List Bytes → Bytes → Nat → Int
 | [], _, _ => -1
 | x :: l, s, k => if s == x then k else idxGo l s (k + 1)
theorem idxGo_has : ∀ (l : List Bytes) (s : Bytes) (k : Nat), decide (idxGo l s k ≥ 0) = hasR l s
 | [], s, k => rfl
 | x :: l, s, k => by
  rw [idxGo, hasR, List.any_cons, ← hasR, ← idxGo_has l s (k + 1)]
  cases h : (s == x)
  ·rw [if_neg (by simp), show (x == s) = false from by rw [Bool.beq_comm]; exact h, Bool.false_or]
  ·rw [if_pos rfl, show (x == s) = true from by rw [Bool.beq_comm]; exact h, Bool.true_or]; simp
theorem index_spec (h28 : T.has 28 c_28) (l : List Bytes) (s : Bytes) (hl : l.length ≤ 2 ^ 60) : Pure T.L 28 [.lst (strA l) .none, .str s] (.int .i64 (idxGo l s 0)) := by
 refine Pure.run (fun y hy => by simp only [List.mem_cons, List.not_mem_nil, or_false] at hy; rcases hy with rfl | rfl <;> first | exact low_strs' _ _ _ trivial | constructor) (.int _ _) (acallsG h28 (by simp [c_28]) ?_)
 conv => whnf
 intro I hI hG
 have key : ∀ (d k : Nat) (e : Env), l.length - k = d → k ≤ l.length → idxGo l s 0 = idxGo (l.drop k) s k → I (setL e [(0, .lst (strA l) .none), (1, .str s), (7, .int .i64 (l.length : Nat)), (8, .int .i64 k)]) [] := by
  intro d
  induction d with
  | zero =>
   intro k e hd hk hv
   obtain rfl : k = l.length := by omega
   apply hI
   conv => whnf
   rw [lt_false (Nat.le_refl _)]
   conv => whnf
   rw [hv, List.drop_length]
   exact ret_weak (Weak.refl _)
  | succ d ih =>
   intro k e hd hk hv
   have hlt : k < l.length := by omega
   apply hI
   conv => whnf
   rw [lt_true hlt]
   conv => whnf
   refine step_strA hlt ?_
   conv => whnf
   rw [List.drop_eq_getElem_cons hlt, idxGo] at hv
   cases hc : (s == l[k])
   ·conv => whnf
    refine inv_of [(0, .lst (strA l) .none), (1, .str s), (7, .int .i64 (l.length : Nat)), (8, .int .i64 ((k + 1 : Nat) : Int))] ⟨rfl, rfl, rfl, add1 (by omega), trivial⟩ (ih (k + 1) _ (by omega) (by omega) ?_)
    rw [if_neg (by simp [hc])] at hv
    exact hv
   ·conv => whnf
    rw [if_pos hc] at hv
    rw [hv]
    exact ret_weak (Weak.refl _)
 exact inv_of [(0, .lst (strA l) .none), (1, .str s), (7, .int .i64 (l.length : Nat)), (8, .int .i64 0)] ⟨rfl, rfl, by show AVal.int .i64 ((strA l).length : Nat) = _; rw [strA_len], rfl, trivial⟩ (key l.length 0 _ rfl (by omega) rfl)
theorem contains_spec (h318 : T.has 318 c_318) (h28 : T.has 28 c_28) (l : List Bytes) (s : Bytes) (hl : l.length ≤ 2 ^ 60) : Pure T.L 318 [.lst (strA l) .none, .str s] (.bool (hasR l s)) := by
 refine Pure.run (fun y hy => by simp only [List.mem_cons, List.not_mem_nil, or_false] at hy; rcases hy with rfl | rfl <;> first | exact low_strs' _ _ _ trivial | constructor) (.bool _) (acallsG h318 (by simp [c_318]) ?_)
 conv => whnf
 refine (index_spec h28 l s hl).to ?_
 conv => whnf
 rw [show decide (idxGo l s 0 ≥ 0) = hasR l s from idxGo_has l s 0]
 exact ret_weak (Weak.refl _)
variable {σ : Type}
def itemH (oo : σ → Nat → AObj) (x : σ) : Heap := [oo x 0, oo x 1, oo x 2, oo x 3, oo x 4, oo x 5, oo x 6, oo x 7]
def fieldsG (w : Bytes) (step : Nat → Bytes → σ → RS → σ × RS) : Nat → List Bytes → σ → RS → σ × RS
 | 0, _, x, s => (x, s)
 | n + 1, seen, x, s =>
  if !s.bad && !isR s kRb then
   if (takeR (nameR s).2 w).bad then (x, takeR (nameR s).2 w)
   else if hasR seen (nameR s).1.text then
    fieldsG w step n seen (step n [] x (twiceR (takeR (nameR s).2 w) (nameR s).1)).1 (commaR (step n [] x (twiceR (takeR (nameR s).2 w) (nameR s).1)).2)
   else
    fieldsG w step n (seen ++ [(nameR s).1.text]) (step n (nameR s).1.text x (takeR (nameR s).2 w)).1 (commaR (step n (nameR s).1.text x (takeR (nameR s).2 w)).2)
  else (x, takeR s kRb)
theorem fieldsG_bad {w : Bytes} {step : Nat → Bytes → σ → RS → σ × RS} {n : Nat} {seen : List Bytes} {x : σ} {s : RS} (h : s.bad = true) : fieldsG w step n seen x s = (x, s) := by
 cases n with
 | zero => rfl
 | succ n => rw [fieldsG, h, if_neg (by simp), takeR_bad h]
structure FieldsOK (T : Tab) (oo : σ → Nat → AObj) (step : Nat → Bytes → σ → RS → σ × RS) (Iv : σ → List Bytes → Prop) (g : Nat) (free : List AVal) (N : Nat) : Prop where
 lfree : ∀ x ∈ free, Low 10 x
 loo : ∀ x i, i < 8 → LowO 10 (oo x i)
 le : ∀ n nm x (s : RS), s.ok → s.le (step n nm x s).2
 none : ∀ n x (s : RS) seen, Iv x seen → Iv (step n [] x s).1 seen
 some : ∀ n nm x (s : RS) seen, Iv x seen → nm ≠ [] → hasR seen nm = false → (step n nm x s).2.bad = false → Iv (step n nm x s).1 (seen ++ [nm])
 item : ∀ n nm x (s : RS) seen, n ≤ N → s.ok → s.bad = false → 6 * s.rem + 8 ≤ n → Iv x seen → seen.length + s.rem + 1 ≤ 2 ^ 34 → (nm = [] ∨ (nm ≠ [] ∧ hasR seen nm = false)) → nm.length ≤ 2 ^ 40 →
  CallR T.L g (.str nm :: free) (pheap s ++ itemH oo x) (outP (step n nm x s).2.bad (.tup [])) (pheap (step n nm x s).2 ++ itemH oo (step n nm x s).1)
theorem low_itemH {oo : σ → Nat → AObj} (h : ∀ x i, i < 8 → LowO 10 (oo x i)) (s : RS) (x : σ) : ∀ o ∈ pheap s ++ itemH oo x, LowO 10 o := fun o ho => by
 rcases List.mem_append.1 ho with ho | ho
 ·simp only [pheap, List.mem_cons, List.not_mem_nil, or_false] at ho
  rcases ho with rfl | rfl
  ·exact dobj_low _ _ _
  ·exact lowC ⟨low_toks _ _ _ trivial, .int _ _, low_diags _ _ _ (dtok_low (by decide)), trivial⟩
 ·simp only [itemH, List.mem_cons, List.not_mem_nil, or_false] at ho
  rcases ho with rfl | rfl | rfl | rfl | rfl | rfl | rfl | rfl <;> exact h _ _ (by decide)
theorem FieldsOK.go {oo : σ → Nat → AObj} {step : Nat → Bytes → σ → RS → σ × RS} {Iv : σ → List Bytes → Prop} {g : Nat} {free : List AVal} {N : Nat} (O : FieldsOK T oo step Iv g free N)
  {n : Nat} {nm : Bytes} {x : σ} {s : RS} {seen : List Bytes} (h1 : n ≤ N) (h2 : s.ok) (h3 : s.bad = false) (h4 : 6 * s.rem + 8 ≤ n) (h5 : Iv x seen) (h6 : seen.length + s.rem + 1 ≤ 2 ^ 34) (h7 : nm = [] ∨ (nm ≠ [] ∧ hasR seen nm = false)) (h8 : nm.length ≤ 2 ^ 40)
  {H : Heap} {K KP : AVal → Heap → Prop} (J : Heap) (hH : H = pheap s ++ (itemH oo x ++ J))
  (hk : (step n nm x s).2.bad = false → K (.tup []) (pheap (step n nm x s).2 ++ (itemH oo (step n nm x s).1 ++ J))) (hp : (step n nm x s).2.bad = true → KP gup (pheap (step n nm x s).2 ++ (itemH oo (step n nm x s).1 ++ J))) :
  ACalls T.L g (.str nm :: free) H (contR K KP) := by
 subst hH
 rw [← List.append_assoc]
 refine (CallR.at (O.item n nm x s seen h1 h2 h3 h4 h5 h6 h7 h8) rfl (fun y hy => ?_) (low_itemH O.loo s x) (low_outP low_unit) (low_itemH O.loo _ _) J).mono fun r H' ⟨e1, e2⟩ => ?_
 ·rcases List.mem_cons.1 hy with rfl | hy
  ·exact .str _
  ·exact O.lfree y hy
 ·subst e1 e2
  rw [List.append_assoc]
  cases e : (step n nm x s).2.bad
  ·exact hk e
  ·exact hp e
theorem fields_spec (F : ParFns T) (h318 : T.has 318 c_318) (h28 : T.has 28 c_28) {oo : σ → Nat → AObj} {step : Nat → Bytes → σ → RS → σ × RS} {Iv : σ → List Bytes → Prop} {g : Nat} {free : List AVal} {N : Nat} (O : FieldsOK T oo step Iv g free N)
  (w : Bytes) (n : Nat) (x : σ) (s : RS) (hn : n ≤ N) (hs : s.ok) (hb : s.bad = false) (hf : 6 * s.rem + 7 ≤ n) (hx : Iv x []) :
  CallR T.L 306 [.ptr 1 0, .str w, .fn (.func g) [] free] (pheap s ++ itemH oo x) (outP (fieldsG w step n [] x s).2.bad (.tup [])) (pheap (fieldsG w step n [] x s).2 ++ itemH oo (fieldsG w step n [] x s).1) := by
 obtain ⟨R, hR⟩ : ∃ R, fieldsG w step n [] x s = R := ⟨_, rfl⟩
 rw [hR]
 refine CallR.of 1 rfl (low_outP low_unit) (low_itemH O.loo _ _) (ACalls.mono (Q := fun r H' => ∃ J, WeakR T.L r (outP R.2.bad (.tup [])) ∧ H' = pheap R.2 ++ (itemH oo R.1 ++ J)) ?_ fun r H' ⟨J, e1, e2⟩ => ⟨_, J, e1, by rw [e2, List.append_assoc], rfl, fun i o o' h1 h2 => by rw [h1] at h2; cases h2; exact WeakO.refl o⟩)
 refine acallsG F.h306 (by simp [c_306]) ?_
 conv => whnf
 intro I hI hG
 have key : ∀ (m : Nat) (s' : RS) (y : σ) (seen : List Bytes) (b : Bool) (e : Env), m ≤ N → s'.ok → s'.bad = false → 6 * s'.rem + 7 ≤ m → Iv y seen → seen.length + s'.rem ≤ 2 ^ 34 →
   fieldsG w step m seen y (if b then s' else commaR s') = R →
   I (setL e [(0, .ptr 1 0), (1, .str w), (2, .fn (.func g) [] free), (6, .lst (strA seen) (dtok (strA seen).length 10)), (7, .bool b)]) (pheap s' ++ (itemH oo y ++ [dobj (strA seen).length 10])) := by
  intro m
  induction m with
  | zero => intro s' y seen b e _ _ _ h; omega
  | succ m ihm =>
   intro s' y seen b e hm hs' hb' hf' hy hl hv
   apply hI
   conv => whnf
   refine F.is hs' hb' kRb _ rfl ?_
   cases hi : isR s' kRb
   ·conv => whnf
    have back : ∀ (s2 : RS) (y2 : σ) (seen2 : List Bytes) (e' : Env) (H' : Heap), s2.ok → s2.bad = false → 6 * s2.rem + 7 ≤ m → Iv y2 seen2 → seen2.length + s2.rem ≤ 2 ^ 34 → fieldsG w step m seen2 y2 (commaR s2) = R →
      H'.take 11 = pheap s2 ++ (itemH oo y2 ++ [dobj (strA seen2).length 10]) →
      envHas e' [(0, .ptr 1 0), (1, .str w), (2, .fn (.func g) [] free), (6, .lst (strA seen2) (dtok (strA seen2).length 10)), (7, .bool false)] → I e' H' := fun s2 y2 seen2 e' H' a1 a2 a3 a4 a5 a6 a7 a8 =>
     hG.keep _ (pheap s2 ++ (itemH oo y2 ++ [dobj (strA seen2).length 10])) (Nat.le_refl 11) a7 a8
      ⟨.ptr _ _ (by decide : 1 < 11), .str _, .fn _ _ _ low0 (fun z hz => (O.lfree z hz).mono (by decide : 10 ≤ 11)), low_strs' _ _ _ (dtok_low (by decide : 10 < 11)), .bool _, trivial⟩
      ⟨dobj_low _ _ _, lowC ⟨low_toks _ _ _ trivial, .int _ _, low_diags _ _ _ (dtok_low (by decide : 0 < 11)), trivial⟩, lowO_mono (by decide : 10 ≤ 11) (O.loo _ 0 (by decide)), lowO_mono (by decide : 10 ≤ 11) (O.loo _ 1 (by decide)), lowO_mono (by decide : 10 ≤ 11) (O.loo _ 2 (by decide)), lowO_mono (by decide : 10 ≤ 11) (O.loo _ 3 (by decide)),
       lowO_mono (by decide : 10 ≤ 11) (O.loo _ 4 (by decide)), lowO_mono (by decide : 10 ≤ 11) (O.loo _ 5 (by decide)), lowO_mono (by decide : 10 ≤ 11) (O.loo _ 6 (by decide)), lowO_mono (by decide : 10 ≤ 11) (O.loo _ 7 (by decide)), dobj_low _ _ _, trivial⟩
      (ihm s2 y2 seen2 false _ (by omega) a1 a2 a3 a4 a5 a6)
    have sized := fun (l : List Bytes) => sized_strA l
    cases b
    case' false =>
     conv => whnf
     refine F.want hs' hb' kComma _ rfl (fun hb2 => ?_) (fun hb2 => by
      have hv2 : R = (y, takeR s' kComma) := by
       rw [← hv, show (if false = true then s' else commaR s') = takeR s' kComma from by unfold commaR; simp [hi, isR_bad hb2], fieldsG_bad hb2]
      rw [hv2]
      conv => whnf
      exact ⟨_, by dsimp only; rw [hb2]; exact Weak.refl _, rfl⟩)
     have hle2 := take_le hs' kComma
     have hs2 := hs'.of hle2
     have hr2 := hle2.rem
     have hm1 : isR (takeR s' kComma) kRb = false → fieldsG w step (m + 1) seen y (takeR s' kComma) = R := fun h => by
      rw [← hv, show (if false = true then s' else commaR s') = takeR s' kComma from by unfold commaR; simp [hi, h]]
     have hm2 : isR (takeR s' kComma) kRb = true → R = (y, giveR (takeR s' kComma) 2) := fun h => by
      rw [← hv, show (if false = true then s' else commaR s') = giveR (takeR s' kComma) 2 from by unfold commaR; simp [hi, h], fieldsG_bad (give_bad _ _)]
     generalize takeR s' kComma = s2 at hle2 hs2 hr2 hb2 hm1 hm2 ⊢
    case' true =>
     have hm1 : isR s' kRb = false → fieldsG w step (m + 1) seen y s' = R := fun h => hv
     have hm2 : isR s' kRb = true → R = (y, giveR s' 2) := fun h => by rw [hi] at h; cases h
     have hs2 := hs'
     have hb2 := hb'
     have hr2 := Nat.le_refl s'.rem
     obtain ⟨s2, hs2e⟩ : ∃ s2, s2 = s' := ⟨_, rfl⟩
     rw [← hs2e] at hs2 hb2 hm1 hm2
     rw [← hs2e]
     replace hr2 : s2.rem ≤ s'.rem := by rw [hs2e]; exact Nat.le_refl _
    all_goals
     clear hv
     conv => whnf
     refine F.name hs2 hb2 _ rfl (fun hb3 => ?_) (fun hb3 => by
      have hv2 : R = (y, (nameR s2).2) := by
       have hnk : ¬ s2.tok.kind = 1 := fun hk => by
        rw [nameR, if_neg (by simp [hb2]), if_pos hk] at hb3
        exact absurd (hb3.symm.trans hb2) (by decide)
       have hne : (nameR s2).2 = giveR s2 2 := by rw [nameR, if_neg (by simp [hb2]), if_neg hnk]
       cases hkr : isR s2 kRb
       ·rw [← hm1 hkr, fieldsG, hb2, hkr, if_pos (by simp), hne, takeR_bad (give_bad _ _), if_pos (give_bad _ _)]
       ·rw [hm2 hkr, hne]
      rw [hv2]
      conv => whnf
      exact ⟨_, by dsimp only; rw [hb3]; exact Weak.refl _, rfl⟩)
     obtain ⟨_, hk1, hnr⟩ := name_bad hb3
     have hkr : isR s2 kRb = false := kind_name hk1 kRb
     have hv := hm1 hkr
     rw [fieldsG, hb2, hkr, if_pos (by simp)] at hv
     clear hm1 hm2
     have htw := twice_le hs2 w
     have htr := two_rem hs2 w
     have hle3 := name_le hs2
     have hmem : s2.tok ∈ s2.toks := List.mem_of_getElem? (tok_at hs2)
     have htxt := hs2.txt _ hmem
     have hnm := hs2.named _ hmem hk1
     rw [hnr] at hv htw htr hle3 ⊢
     dsimp only at hv htw htr hle3 ⊢
     clear hb3
     have hb3 : ({ s2 with i := s2.i + 1 } : RS).bad = false := hb2
     generalize s2.tok = t at hk1 hv htw htr htxt hnm ⊢
     have hs3 := hs2.of hle3
     have hr3 := hle3.rem
     generalize ({ s2 with i := s2.i + 1 } : RS) = s3 at hv htw htr hle3 hs3 hr3 hb3 ⊢
     conv => whnf
     refine F.want hs3 hb3 w _ rfl (fun hb4 => ?_) (fun hb4 => by
      rw [if_pos hb4] at hv
      subst hv
      conv => whnf
      exact ⟨_, by dsimp only; rw [hb4]; exact Weak.refl _, rfl⟩)
     rw [if_neg (by simp [hb4])] at hv
     have htw := htw hb4
     have htr := htr hb4
     have hle4 := take_le hs3 w
     have hs4 := hs3.of hle4
     generalize takeR s3 w = s4 at hv htw htr hle4 hs4 hb4 ⊢
     conv => whnf
     refine ((contains_spec h318 h28 seen t.text (by omega)).weak (args := [.lst (strA seen) (dtok (strA seen).length 10), .str t.text]) ⟨Weak.tok _ _, Weak.refl _, trivial⟩).to ?_
     cases hc : hasR seen t.text
     ·rw [if_neg (by simp [hc])] at hv
      conv => whnf
      have hsl := strA_len seen
      refine app_slot (id := 10) (sized_strA seen) (sized_one rfl) (by simp [hsl]; omega) (by simp [hsl]; omega) (by simp) rfl ?_
      conv => whnf
      refine O.go (n := m) (seen := seen) (by omega) hs4 hb4 (by omega) hy (by omega) (.inr ⟨hnm, hc⟩) htxt _ rfl (fun hb5 => ?_) fun hb5 => ?_
      ·conv => whnf
       have hle5 := O.le m t.text y s4 hs4
       have hr5 := hle5.rem
       have e2 : strA (seen ++ [t.text]) = strA seen ++ [.str t.text] := by simp [strA]
       have hbk := fun e' H' => back _ _ (seen ++ [t.text]) e' H' (hs4.of hle5) hb5 (by omega) (O.some m t.text y s4 seen hy hnm hc hb5) (by simp; omega) hv
       rw [e2] at hbk
       exact hbk _ _ rfl ⟨rfl, rfl, rfl, rfl, rfl, trivial⟩
      ·rw [commaR_bad hb5, fieldsG_bad hb5] at hv
       subst hv
       conv => whnf
       exact ⟨_, by dsimp only; rw [hb5]; exact Weak.refl _, rfl⟩
     ·rw [if_pos hc] at hv
      conv => whnf
      refine papp_diag hs4 ⟨t.at_, 4, t.text⟩ rfl rfl ?_
      conv => whnf
      have hs6 := hs2.of htw
      have hr6 := htw.rem
      have hb6 : (twiceR s4 t).bad = false := hb4
      have hr7 : (twiceR s4 t).rem = s4.rem := rfl
      refine O.go (n := m) (s := twiceR s4 t) (nm := []) (seen := seen) (by omega) hs6 hb6 (by omega) hy (by omega) (.inl rfl) (by simp) _ rfl (fun hb5 => ?_) fun hb5 => ?_
      ·conv => whnf
       have hle5 := O.le m [] y (twiceR s4 t) hs6
       have hr5 := hle5.rem
       exact back _ _ seen _ _ (hs6.of hle5) hb5 (by omega) (O.none m y _ seen hy) (by omega) hv rfl ⟨rfl, rfl, rfl, rfl, rfl, trivial⟩
      ·rw [commaR_bad hb5, fieldsG_bad hb5] at hv
       subst hv
       conv => whnf
       exact ⟨_, by dsimp only; rw [hb5]; exact Weak.refl _, rfl⟩
   ·conv => whnf
    rw [addN hs'.i]
    have hv2 : R = (y, takeR s' kRb) := by
     rw [← hv, show (if b = true then s' else commaR s') = s' from by cases b <;> simp [commaR, hi], fieldsG, hi, if_neg (by simp)]
    rw [hv2, take_yes hi]
    exact ⟨_, by dsimp only; rw [hb']; exact Weak.refl _, rfl⟩
 exact inv_of [(0, .ptr 1 0), (1, .str w), (2, .fn (.func g) [] free), (6, .lst [] .nil), (7, .bool true)] ⟨rfl, rfl, rfl, rfl, rfl, trivial⟩ (key n s x [] true _ hn hs hb hf hx (by have := hs.len; simp [RS.rem]; omega) hR)
end Go.Ag
/- A row that could be written, at a call's end: nobody will write it any more, it is a list by content. -/
namespace Go.Ag
open Go
variable {L : Lnk}
def Froze (L : Lnk) (id k : Nat) (xs : List AVal) (g : Ghost) : Prop := ∀ u, Rep L g u (.vec id xs.length k 0 xs.length) → Rep L g u (.lst xs .none)
theorem St.freeze {g : Ghost} {w : World} {H : Heap} (h : St L g w H) {id t : Nat} {xs : List AVal} (hid : H[id]? = some (.arr xs.length xs t)) (k : Nat) :
  ∃ g', g.le g' ∧ St L g' w (H.set id .gone) ∧ Froze L id k xs g' := by
 obtain ⟨s, vs, e1, e0, e2, e3, e4, e5, e6, e7, e8, e9, e10⟩ := h.obj id _ hid
 have hf : ∀ o, 0 ≤ o → o < 0 + (vs.toList.take (xs.length * s.k)).length → g.fz s.b o = none := fun o _ _ => e9 o
 have hle := Ghost.setFz_le (g := g) e10.2 hf
 have hlt : id < H.length := by
  rcases Nat.lt_or_ge id H.length with h' | h'
  ·exact h'
  ·rw [List.getElem?_eq_none h'] at hid; cases hid
 have hw : St L g w (H.set id .gone) := h.weak (by simp) fun i o o' ho ho' => by
  rw [List.getElem?_set] at ho'
  split at ho'
  ·rename_i he
   subst he
   cases ho'
   cases o <;> exact trivial
  ·rw [ho] at ho'; cases ho'; exact WeakO.refl o
 have hcell : ∀ j v, (vs.toList.take (xs.length * s.k))[j]? = some v → w.cell? ⟨s.b, 0 + j, none⟩ = some v := fun j v hv => by
  rw [List.getElem?_take] at hv
  split at hv
  ·simp only [World.cell?, e4, Nat.zero_add]
   simpa using hv
  ·cases hv
 refine ⟨g.setFz s.b 0 (vs.toList.take (xs.length * s.k)), hle, hw.freezeNew e10.2 hf hcell (fun i o s' ho ha hs hb => ?_), fun u hu => ?_⟩
 ·rw [List.getElem?_set] at ho
  split at ho
  ·rename_i he
   subst he
   cases ho
   cases ha
  ·rename_i hne
   exact hne (h.inj id i _ o s s' hid ho rfl ha e1 hs hb.symm)
 ·cases hu with
  | vec _ _ _ _ _ c s' h1 hk hc hz =>
   have : s' = s := by
    have h2 := hle.ob _ _ _ e1
    rw [h2] at h1
    exact (Option.some.inj h1).symm
   subst this
   refine .lst _ c k s'.b 0 xs (vs.toList.take (xs.length * s'.k)) .none (fun _ => by rw [Nat.zero_mul]) (fun j v hv => ?_) (fun x hx => by rw [e6 x hx, hk]) hc trivial (e8.mono hle)
   exact Ghost.setFz_at _ _ _ _ j v hv
def WeakG (Φ : Ghost → Prop) (L : Lnk) (x y : AVal) : Prop := ∀ g, Φ g → ∀ v, Rep L g v x → Rep L g v y
def WeakGL (Φ : Ghost → Prop) (L : Lnk) : List AVal → List AVal → Prop
 | [], [] => True
 | x :: xs, y :: ys => WeakG Φ L x y ∧ WeakGL Φ L xs ys
 | _, _ => False
def WeakGR (Φ : Ghost → Prop) (L : Lnk) : ARet → ARet → Prop
 | .ret x, .ret y => WeakG Φ L x y
 | .pan x, .pan y => WeakG Φ L x y
 | _, _ => False
theorem WeakG.refl {Φ : Ghost → Prop} (x : AVal) : WeakG Φ L x x := fun _ _ _ h => h
theorem WeakG.of {Φ : Ghost → Prop} {x y : AVal} (h : Weak L x y) : WeakG Φ L x y := fun _ _ _ hv => h _ _ hv
theorem WeakG.froze {id k : Nat} {xs : List AVal} : WeakG (Froze L id k xs) L (.vec id xs.length k 0 xs.length) (.lst xs .none) := fun _ hg _ hv => hg _ hv
theorem RepL.weakG {Φ : Ghost → Prop} {g : Ghost} (hg : Φ g) {vs : List Value} {xs ys : List AVal} (h : RepL L g vs xs) (hw : WeakGL Φ L xs ys) : RepL L g vs ys := by
 induction xs generalizing vs ys with
 | nil => cases ys with
  | nil => exact h
  | cons => exact False.elim hw
 | cons x xs ih => cases ys with
  | nil => exact False.elim hw
  | cons y ys => cases h with | cons _ _ _ _ h hs => exact .cons _ _ _ _ (hw.1 _ hg _ h) (ih hs hw.2)
theorem WeakG.agg {Φ : Ghost → Prop} {xs ys : List AVal} (h : WeakGL Φ L xs ys) : WeakG Φ L (.agg xs) (.agg ys) := fun g hg v hv => by
 cases hv with | agg vs _ hr => exact .agg vs _ (hr.weakG hg h)
theorem ACalls.freeze {f : Nat} {args : List AVal} {H : Heap} {Q : ARet → Heap → Prop}
  (h : ACalls L f args H fun r H' => Q r H' ∨ ∃ id xs t k r', H'[id]? = some (.arr xs.length xs t) ∧ WeakGR (Froze L id k xs) L r r' ∧ Q r' (H'.set id .gone)) : ACalls L f args H Q := fun g w vs hs hr =>
 (h g w vs hs hr).mono fun e w' ⟨r, H', g', hq, hle, hst, hrep⟩ => by
  rcases hq with hq | ⟨id, xs, t, k, r', h1, h2, h3⟩
  ·exact ⟨r, H', g', hq, hle, hst, hrep⟩
  ·obtain ⟨g2, k1, k2, k3⟩ := hst.freeze h1 k
   refine ⟨r', _, g2, h3, hle.trans k1, k2, ?_⟩
   cases r with
   | ret x =>
    cases r' with
    | ret y => obtain ⟨v, rfl, hv⟩ := hrep; exact ⟨v, rfl, h2 _ k3 _ (hv.mono k1)⟩
    | pan y => exact h2.elim
   | pan x =>
    cases r' with
    | ret y => exact h2.elim
    | pan y => obtain ⟨v, rfl, hv⟩ := hrep; exact ⟨v, rfl, h2 _ k3 _ (hv.mono k1)⟩
end Go.Ag
/- Package parse: a record type's fields. -/
namespace Go.Ag
open Go
variable {T : Tab} {L : Lnk}
def vval (xs : List AVal) (k id : Nat) : AVal := match xs with
 | [] => .lst [] .nil
 | _ :: _ => .vec id xs.length k 0 xs.length
def vobj (xs : List AVal) (t : Nat) : AObj := match xs with
 | [] => .dead
 | _ :: _ => .arr xs.length xs t
theorem vval_ne {xs : List AVal} (h : xs ≠ []) (k id : Nat) : vval xs k id = .vec id xs.length k 0 xs.length := by cases xs with
 | nil => exact absurd rfl h
 | cons => rfl
theorem vobj_ne {xs : List AVal} (h : xs ≠ []) (t : Nat) : vobj xs t = .arr xs.length xs t := by cases xs with
 | nil => exact absurd rfl h
 | cons => rfl
theorem app_vec {k bytes t id : Nat} {xs ys : List AVal} {tk0 : Tok} {H : Heap} {K : AVal → Heap → Prop} (hx : Sized k xs) (hy : Sized k ys) (hb : (xs.length + ys.length) * bytes ≤ 2 ^ 46) (hl : xs.length + ys.length ≤ 2 ^ 46) (hne : ys ≠ [])
  (hid : H[id]? = some (vobj xs t)) (h : K (.vec id (xs ++ ys).length k 0 (xs ++ ys).length) (H.set id (.arr (xs ++ ys).length (xs ++ ys) t))) : appK k bytes t (vval xs k id) (.lst ys tk0) H K := by
 cases xs with
 | nil =>
  rw [show vval [] k id = .lst [] .nil from rfl]
  unfold appK
  refine ⟨hx, hy, hb, hl, ?_⟩
  rw [if_neg hne]
  exact .inr (.inr (.inl ⟨id, hid, h⟩))
 | cons x xs =>
  rw [vval_ne (List.cons_ne_nil _ _)]
  rw [vobj_ne (List.cons_ne_nil _ _)] at hid
  unfold appK
  rw [List.length_append] at h
  refine ⟨hy, ⟨rfl, rfl, hne⟩, hb, hl, ?_⟩
  rw [hid]
  refine ⟨⟨rfl, Nat.le_refl _, rfl, hx⟩, (x :: xs).length + ys.length, Nat.lt_add_of_pos_right (List.length_pos_iff.2 hne), ?_⟩
  rw [List.take_length]; exact h
def entsT : List (Bytes × TA) → Nat → List (AVal × AVal × Nat)
 | [], _ => []
 | p :: l, k => (.str p.1, p.2.av, k) :: entsT l (k + 1)
theorem entsT_append : ∀ (l : List (Bytes × TA)) (p : Bytes × TA) (k : Nat), entsT (l ++ [p]) k = entsT l k ++ [(.str p.1, p.2.av, k + l.length)]
 | [], p, k => rfl
 | q :: l, p, k => by
  rw [List.cons_append, entsT, entsT_append l p (k + 1), entsT, List.cons_append, List.length_cons, show k + 1 + l.length = k + (l.length + 1) from by omega]
theorem findT : ∀ (l : List (Bytes × TA)) (nm : Bytes) (k i : Nat), findM 1 (.str nm) (entsT l k) i = some ((l.findIdx? (·.1 == nm)).map fun j => (i + j, ((l.find? (·.1 == nm)).map (·.2.av)).getD .undef))
 | [], nm, k, i => rfl
 | p :: l, nm, k, i => by
  rw [entsT, findM, keyEq]
  cases h : (nm == p.1)
  ·dsimp only
   rw [findT l nm (k + 1) (i + 1), List.findIdx?_cons, List.find?_cons, show (p.1 == nm) = false from by rw [Bool.beq_comm]; exact h]
   cases l.findIdx? (·.1 == nm) with
   | none => rfl
   | some j => simp; omega
  ·dsimp only
   rw [List.findIdx?_cons, List.find?_cons, show (p.1 == nm) = true from by rw [Bool.beq_comm]; exact h]
   rfl
theorem findT_none {l : List (Bytes × TA)} {nm : Bytes} (h : hasR (l.map (·.1)) nm = false) (k i : Nat) : findM 1 (.str nm) (entsT l k) i = some none := by
 rw [findT]
 have : l.findIdx? (·.1 == nm) = none := by
  rw [List.findIdx?_eq_none_iff]
  intro p hp
  simp only [hasR, List.any_map, List.any_eq_false] at h
  simpa using h p hp
 rw [this]; rfl
theorem putM_new {kk : Nat} {H : Heap} {id c : Nat} {k v : AVal} {es : List (AVal × AVal × Nat)} (h : H[id]? = some (.map es c)) (hf : findM kk k es 0 = some none) : putM kk H (.map id) k v = some (H.set id (.map (es ++ [(k, v, c)]) (c + 1))) := by
 simp only [putM, h, hf]
def namesT (x : List (Bytes × TA)) : List AVal := strA (x.map (·.1))
def zeroC4 : List AVal := [.int .i64 0, .str [], .lst [] .nil, .lst [] .nil]
def recO (d : Nat) (x : List (Bytes × TA)) : Nat → AObj
 | 0 => vobj (namesT x) 10
 | 1 => .dead
 | 2 => .cells [.ptr 1 0] 225
 | 3 => .cells [.int .i64 d] 4
 | 4 => .cells zeroC4 175
 | 5 => .cells [vval (namesT x) 1 2] 43
 | 6 => .map (entsT x 0) x.length
 | 7 => .cells [.map 8] 231
 | _ => .dead
def recStep (d n : Nat) (nm : Bytes) (x : List (Bytes × TA)) (s : RS) : List (Bytes × TA) × RS :=
 (if nm = [] ∨ (typeR n (d + 1) s).2.bad = true then x else x ++ [(nm, (typeR n (d + 1) s).1)], (typeR n (d + 1) s).2)
theorem recItem_spec (F : ParFns T) {N : Nat} (ih : ∀ m, m ≤ N → PTy T m) (d : Nat) (hd : d ≤ 64) (n : Nat) (nm : Bytes) (x : List (Bytes × TA)) (s : RS) (hn : n ≤ N) (hs : s.ok) (hb : s.bad = false) (hf : 6 * s.rem + 6 ≤ n)
  (hl : x.length + s.rem + 1 ≤ 2 ^ 34) (hnm : nm = [] ∨ (nm ≠ [] ∧ hasR (x.map (·.1)) nm = false)) :
  ACalls T.L 307 [.str nm, .ptr 4 0, .ptr 5 0, .ptr 7 0, .ptr 9 0] (pheap s ++ itemH (recO d) x) fun r H' => ∃ J, WeakR T.L r (outP (recStep d n nm x s).2.bad (.tup [])) ∧ H' = pheap (recStep d n nm x s).2 ++ (itemH (recO d) (recStep d n nm x s).1 ++ J) := by
 refine acallsG F.h307 (by simp [c_307]) ?_
 have ht := (ih n hn).typ (d + 1) s hs hb (by omega) hf
 unfold recStep
 have hle := (le_types n).1 (d + 1) s hs
 generalize typeR n (d + 1) s = q at ht hle ⊢
 obtain ⟨⟨k', nm', ns', l'⟩, s1⟩ := q
 dsimp only at ht hle ⊢
 conv => whnf
 rw [addN (by omega)]
 refine ht.to (low1 (.int _ _)) (low_ta _ _) _ rfl (fun hb1 => ?_) fun hb1 => ?_
 ·conv => whnf
  rcases hnm with rfl | ⟨hne, hnew⟩
  ·rw [if_pos (.inl rfl)]
   conv => whnf
   exact ⟨_, by rw [hb1]; exact Weak.refl _, rfl⟩
  ·rw [if_neg (fun h => h.elim hne fun h => absurd (hb1.symm.trans h) (by decide))]
   rw [show (nm == ([] : Bytes)) = false from by simpa using hne]
   have hsz : (namesT x).length = x.length := by simp [namesT, strA]
   have hr1 := hle.rem
   have e1 : namesT (x ++ [(nm, TA.mk k' nm' ns' l')]) = namesT x ++ [.str nm] := by simp [namesT, strA]
   have e2 : entsT (x ++ [(nm, TA.mk k' nm' ns' l')]) 0 = entsT x 0 ++ [(.str nm, (TA.mk k' nm' ns' l').av, x.length)] := by rw [entsT_append, Nat.zero_add]
   have e3 : (x ++ [(nm, TA.mk k' nm' ns' l')]).length = x.length + 1 := by simp
   have hH : ∀ J : Heap, itemH (recO d) (x ++ [(nm, TA.mk k' nm' ns' l')]) ++ J = [.arr (namesT x ++ [AVal.str nm]).length (namesT x ++ [AVal.str nm]) 10, .dead, .cells [.ptr 1 0] 225, .cells [.int .i64 d] 4, .cells zeroC4 175, .cells [.vec 2 (namesT x ++ [AVal.str nm]).length 1 0 (namesT x ++ [AVal.str nm]).length] 43,
     .map (entsT x 0 ++ [(.str nm, (TA.mk k' nm' ns' l').av, x.length)]) (x.length + 1), .cells [.map 8] 231] ++ J := fun J => by
    have hn : namesT x ++ [AVal.str nm] ≠ [] := by simp
    rw [← vval_ne hn, ← vobj_ne hn, ← e1, ← e2, ← e3]; rfl
   have hfind := findT_none hnew 0 0
   have happ : ∀ {tk0 : Tok} {H : Heap} {K : AVal → Heap → Prop}, H[2]? = some (vobj (namesT x) 10) → K (.vec 2 (namesT x ++ [AVal.str nm]).length 1 0 (namesT x ++ [AVal.str nm]).length) (H.set 2 (.arr (namesT x ++ [AVal.str nm]).length (namesT x ++ [AVal.str nm]) 10)) → appK 1 16 10 (vval (namesT x) 1 2) (.lst [.str nm] tk0) H K :=
    fun h1 h2 => app_vec (sized_strA _) (sized_one rfl) (by rw [hsz]; simp; omega) (by rw [hsz]; simp; omega) (by simp) h1 h2
   have hH0 : itemH (recO d) x = [vobj (namesT x) 10, .dead, .cells [.ptr 1 0] 225, .cells [.int .i64 d] 4, .cells zeroC4 175, .cells [vval (namesT x) 1 2] 43, .map (entsT x 0) x.length, .cells [.map 8] 231] := rfl
   rw [hH0]
   simp only [hH]
   generalize entsT x 0 = E at hfind ⊢
   generalize namesT x = XS at happ ⊢
   clear hH0 hH e1 e2 e3
   cases XS
   all_goals
    conv => whnf
    refine happ rfl ?_
    conv => whnf
    rw [putM_new (es := E) (c := x.length) ?_ hfind]
    ·conv => whnf
     exact ⟨_, by rw [hb1]; exact Weak.refl _, rfl⟩
    ·rfl
 ·rw [if_pos (.inr hb1)]
  conv => whnf
  exact ⟨_, by rw [hb1]; exact Weak.refl _, rfl⟩
end Go.Ag
/- Package parse: the fields of a record type, sorted: as the document's reader has them. -/
namespace Go.Ag
open Go
theorem bytesLess_lt : ∀ (x y : Bytes), bytesLess x y = decide (x < y)
 | [], [] => by simp [bytesLess]
 | _ :: _, [] => by simp [bytesLess]
 | [], _ :: _ => by simp [bytesLess]
 | a :: x, b :: y => by
  rw [bytesLess, bytesLess_lt x y]
  simp only [List.cons_lt_cons_iff]
  by_cases h1 : a < b <;> by_cases h2 : a = b <;> by_cases h3 : x < y <;> simp [h1, h2, h3]
def sortB (l : List Bytes) : List Bytes := l.mergeSort fun x y => decide (x ≤ y)
theorem sortB_perm (l : List Bytes) : (sortB l).Perm l := List.mergeSort_perm l _
theorem sortB_sorted (l : List Bytes) : (sortB l).Pairwise (· ≤ ·) := (List.pairwise_mergeSort (le := fun x y => decide (x ≤ y)) (fun a b c h1 h2 => by simp at *; exact List.le_trans h1 h2) (fun a b => by simp; exact List.le_total a b) l).imp (by simp)
theorem sortB_unique {l m : List Bytes} (hp : m.Perm l) (hs : m.Pairwise (· < ·)) : sortB l = m :=
 List.Perm.eq_of_pairwise (le := (· ≤ ·)) (fun a b _ _ h1 h2 => List.le_antisymm h1 h2) (sortB_sorted l) (hs.imp fun h => List.le_of_lt h) ((sortB_perm l).trans hp.symm)
variable {α : Type}
def insP (l : List (Bytes × α)) (p : Bytes × α) : List (Bytes × α) := insR l (lowR (l.map (·.1)) p.1) p
def recP (x : List (Bytes × α)) : List (Bytes × α) := x.foldl insP []
theorem insP_eq (l : List (Bytes × α)) (p : Bytes × α) : insP l p = l.takeWhile (fun q => bytesLess q.1 p.1) ++ [p] ++ l.dropWhile (fun q => bytesLess q.1 p.1) := by
 have h1 : lowR (l.map (·.1)) p.1 = (l.takeWhile (fun q => bytesLess q.1 p.1)).length := by
  unfold lowR
  rw [List.takeWhile_map, List.length_map]
  rfl
 unfold insP insR
 rw [h1]
 have h2 : l = l.takeWhile (fun q => bytesLess q.1 p.1) ++ l.dropWhile (fun q => bytesLess q.1 p.1) := List.takeWhile_append_dropWhile.symm
 have h3 : l.take (l.takeWhile (fun q => bytesLess q.1 p.1)).length = l.takeWhile (fun q => bytesLess q.1 p.1) := by
  conv => lhs; rw [h2]
  rw [← h2]
  conv => lhs; arg 2; rw [h2]
  rw [List.take_left]
 have h4 : l.drop (l.takeWhile (fun q => bytesLess q.1 p.1)).length = l.dropWhile (fun q => bytesLess q.1 p.1) := by
  conv => lhs; arg 2; rw [h2]
  rw [List.drop_left]
 rw [h3, h4]
theorem insP_perm (l : List (Bytes × α)) (p : Bytes × α) : (insP l p).Perm (l ++ [p]) := by
 rw [insP_eq]
 have h2 : l = l.takeWhile (fun q => bytesLess q.1 p.1) ++ l.dropWhile (fun q => bytesLess q.1 p.1) := List.takeWhile_append_dropWhile.symm
 conv => rhs; rw [h2]
 rw [List.append_assoc, List.append_assoc]
 exact List.Perm.append_left _ List.perm_append_comm
theorem mem_tw {β : Type} {p : β → Bool} : ∀ {l : List β} {a : β}, a ∈ l.takeWhile p → p a = true
 | [], a, h => by simp at h
 | b :: l, a, h => by
  rw [List.takeWhile_cons] at h
  split at h
  ·rename_i hb
   rcases List.mem_cons.1 h with rfl | h
   ·exact hb
   ·exact mem_tw h
  ·cases h
theorem insP_sorted {l : List (Bytes × α)} {p : Bytes × α} (h : l.Pairwise fun a b => a.1 < b.1) (hn : ∀ q ∈ l, q.1 ≠ p.1) : (insP l p).Pairwise fun a b => a.1 < b.1 := by
 rw [insP_eq]
 have h2 : l = l.takeWhile (fun q => bytesLess q.1 p.1) ++ l.dropWhile (fun q => bytesLess q.1 p.1) := List.takeWhile_append_dropWhile.symm
 have hlt : ∀ a ∈ l.takeWhile (fun q => bytesLess q.1 p.1), a.1 < p.1 := fun a ha => by
  have := mem_tw ha
  rw [bytesLess_lt] at this
  simpa using this
 have hgt : ∀ b ∈ l.dropWhile (fun q => bytesLess q.1 p.1), p.1 < b.1 := by
  have hsub : (l.dropWhile (fun q => bytesLess q.1 p.1)).Sublist l := List.dropWhile_sublist _
  have hp : (l.dropWhile (fun q => bytesLess q.1 p.1)).Pairwise fun a b => a.1 < b.1 := h.sublist hsub
  have hd : ∀ (h0 : l.dropWhile (fun q => bytesLess q.1 p.1) ≠ []), bytesLess ((l.dropWhile (fun q => bytesLess q.1 p.1)).head h0).1 p.1 = false := fun h0 => by
   have := List.head_dropWhile_not (fun q : Bytes × α => bytesLess q.1 p.1) (l := l) h0
   simpa using this
  have hm : ∀ q ∈ l.dropWhile (fun q => bytesLess q.1 p.1), q.1 ≠ p.1 := fun q hq => hn q (hsub.subset hq)
  generalize l.dropWhile (fun q => bytesLess q.1 p.1) = dw at hp hd hm
  cases dw with
  | nil => intro b hb; cases hb
  | cons b0 dw =>
   have h0 := hd (by simp)
   rw [bytesLess_lt] at h0
   have h1 : p.1 < b0.1 := by
    have h3 : ¬ b0.1 < p.1 := of_decide_eq_false h0
    rcases Decidable.em (p.1 < b0.1) with h | h
    ·exact h
    ·exact absurd (List.le_antisymm (List.not_lt.1 h) (List.not_lt.1 h3)) (hm b0 (by simp))
   intro b hb
   rcases List.mem_cons.1 hb with rfl | hb
   ·exact h1
   ·exact List.lt_trans h1 ((List.pairwise_cons.1 hp).1 b hb)
 rw [List.append_assoc, List.pairwise_append]
 refine ⟨h.sublist (List.takeWhile_sublist _), ?_, fun a ha b hb => ?_⟩
 ·rw [List.singleton_append, List.pairwise_cons]
  exact ⟨hgt, h.sublist (List.dropWhile_sublist _)⟩
 ·rw [List.singleton_append] at hb
  rcases List.mem_cons.1 hb with rfl | hb
  ·exact hlt a ha
  ·exact List.lt_trans (hlt a ha) (hgt b hb)
theorem recP_append (x : List (Bytes × α)) (p : Bytes × α) : recP (x ++ [p]) = insP (recP x) p := by unfold recP; rw [List.foldl_append]; rfl
theorem rev_ind {α : Type} {P : List α → Prop} (h0 : P []) (h1 : ∀ l a, P l → P (l ++ [a])) (l : List α) : P l := by
 have : ∀ l : List α, P l.reverse := fun l => by
  induction l with
  | nil => exact h0
  | cons a l ih => rw [List.reverse_cons]; exact h1 _ _ ih
 have h := this l.reverse
 rwa [List.reverse_reverse] at h
theorem recP_perm (x : List (Bytes × α)) : (recP x).Perm x := by
 induction x using rev_ind with
 | h0 => exact List.Perm.refl _
 | h1 l a ih => rw [recP_append]; exact (insP_perm _ _).trans (ih.append_right _)
theorem recP_sorted (x : List (Bytes × α)) (h : (x.map (·.1)).Nodup) : (recP x).Pairwise fun a b => a.1 < b.1 := by
 induction x using rev_ind with
 | h0 => exact List.Pairwise.nil
 | h1 l a ih =>
  rw [List.map_append, List.nodup_append] at h
  rw [recP_append]
  exact insP_sorted (ih h.1) fun q hq e => h.2.2 q.1 (List.mem_map_of_mem ((recP_perm l).mem_iff.1 hq)) a.1 (by simp) e
def lookP [Inhabited α] (x : List (Bytes × α)) (nm : Bytes) : α := ((x.find? (·.1 == nm)).map (·.2)).getD default
theorem lookP_mem [Inhabited α] {x : List (Bytes × α)} (h : (x.map (·.1)).Nodup) {p : Bytes × α} (hp : p ∈ x) : lookP x p.1 = p.2 := by
 induction x with
 | nil => cases hp
 | cons q x ih =>
  rw [List.map_cons, List.nodup_cons] at h
  unfold lookP
  rw [List.find?_cons]
  rcases List.mem_cons.1 hp with rfl | hp
  ·simp
  ·have : (q.1 == p.1) = false := by
    simp only [beq_eq_false_iff_ne]
    exact fun e => h.1 (by rw [e]; exact List.mem_map_of_mem hp)
   rw [this]
   exact ih h.2 hp
theorem recP_names (x : List (Bytes × α)) (h : (x.map (·.1)).Nodup) : (recP x).map (·.1) = sortB (x.map (·.1)) :=
 (sortB_unique ((recP_perm x).map _) (List.pairwise_map.2 (recP_sorted x h))).symm
theorem recP_vals [Inhabited α] (x : List (Bytes × α)) (h : (x.map (·.1)).Nodup) : (recP x).map (·.2) = (sortB (x.map (·.1))).map (lookP x) := by
 rw [← recP_names x h, List.map_map]
 exact List.map_congr_left fun p hp => (lookP_mem h ((recP_perm x).mem_iff.1 hp)).symm
theorem hasR_perm {l m : List Bytes} (h : l.Perm m) (s : Bytes) : hasR l s = hasR m s := by
 unfold hasR
 rw [Bool.eq_iff_iff, List.any_eq_true, List.any_eq_true]
 exact ⟨fun ⟨x, h1, h2⟩ => ⟨x, h.mem_iff.1 h1, h2⟩, fun ⟨x, h1, h2⟩ => ⟨x, h.mem_iff.2 h1, h2⟩⟩
theorem hasR_not {l : List Bytes} {s : Bytes} (h : hasR l s = false) : s ∉ l := fun hm => by
 rw [hasR, List.any_eq_false] at h
 exact h s hm (by simp)
theorem insR_map {α β : Type} (f : α → β) (l : List α) (i : Nat) (p : α) : (insR l i p).map f = insR (l.map f) i (f p) := by
 simp [insR, List.map_take, List.map_drop]
instance : Inhabited TA := ⟨zeroT⟩
def recT (x : List (Bytes × TA)) : TA := .mk 5 [] ((recP x).map (·.1)) ((recP x).map (·.2))
theorem recT_append (x : List (Bytes × TA)) (p : Bytes × TA) : recT (x ++ [p]) = .mk 5 [] (insR (recT x).names (lowR (recT x).names p.1) p.1) (insR (recT x).l (lowR (recT x).names p.1) p.2) := by
 unfold recT
 rw [recP_append, insP, insR_map, insR_map]
 rfl
def recSt (d : Nat) : Nat → Bytes → List (Bytes × TA) → RS → List (Bytes × TA) × RS := fun n nm x s => recStep d n nm x s
theorem fields_rel (d : Nat) : ∀ (n : Nat) (x : List (Bytes × TA)) (s : RS), (x.map (·.1)).Nodup → s.ok →
  (fieldsR n d (recT x) s).2 = (fieldsG kColon (recSt d) n (x.map (·.1)) x s).2 ∧
  ((fieldsG kColon (recSt d) n (x.map (·.1)) x s).2.bad = false → (fieldsR n d (recT x) s).1 = recT (fieldsG kColon (recSt d) n (x.map (·.1)) x s).1 ∧ ((fieldsG kColon (recSt d) n (x.map (·.1)) x s).1.map (·.1)).Nodup)
 | 0, x, s, h, hs => ⟨by rw [fieldsR]; rfl, fun _ => ⟨by rw [fieldsR]; rfl, h⟩⟩
 | n + 1, x, s, h, hs => by
  rw [fieldsR, fieldsG]
  by_cases h1 : (!s.bad && !isR s kRb) = true
  ·rw [if_pos h1, if_pos h1]
   by_cases h2 : (takeR (nameR s).2 kColon).bad = true
   ·rw [if_pos h2, if_pos h2]
    exact ⟨rfl, fun e => by rw [h2] at e; cases e⟩
   ·rw [if_neg h2, if_neg h2]
    have h2' : (takeR (nameR s).2 kColon).bad = false := by simpa using h2
    have hn : hasR (recT x).names (nameR s).1.text = hasR (x.map (·.1)) (nameR s).1.text := hasR_perm ((recP_perm x).map _) _
    rw [hn]
    have k1 := twice_le hs kColon h2'
    have k2 := (name_le hs).trans (take_le (hs.of (name_le hs)) kColon)
    by_cases h3 : hasR (x.map (·.1)) (nameR s).1.text = true
    ·rw [if_pos h3, if_pos h3]
     have k3 := (le_types n).1 (d + 1) _ (hs.of k1)
     have k4 := comma_le ((hs.of k1).of k3)
     have := fields_rel d n x _ h (((hs.of k1).of k3).of k4)
     exact this
    ·rw [if_neg h3, if_neg h3]
     obtain ⟨h4, _, _⟩ := take_bad h2'
     obtain ⟨_, h6, h7⟩ := name_bad h4
     have hne : (nameR s).1.text ≠ [] := by
      rw [h7]
      exact hs.named _ (List.mem_of_getElem? (tok_at hs)) h6
     have k3 := (le_types n).1 (d + 1) _ (hs.of k2)
     have k4 := comma_le ((hs.of k2).of k3)
     have hok := ((hs.of k2).of k3).of k4
     simp only [recSt, recStep]
     generalize typeR n (d + 1) (takeR (nameR s).2 kColon) = q at hok k3 k4 ⊢
     by_cases h5 : q.2.bad = true
     ·rw [if_pos (.inr h5), commaR_bad h5, fieldsG_bad h5]
      exact ⟨(bad_types n).2.2.2.2 d _ _ h5, fun e => by rw [h5] at e; cases e⟩
     ·rw [if_neg (fun e => e.elim hne h5)]
      have hnd : ((x ++ [((nameR s).1.text, q.1)]).map (·.1)).Nodup := by
       rw [List.map_append, List.nodup_append]
       refine ⟨h, by simp, fun a ha b hb => ?_⟩
       simp only [List.map_cons, List.map_nil, List.mem_singleton] at hb
       subst hb
       intro e
       subst e
       exact hasR_not (by simpa using h3) ha
      have := fields_rel d n (x ++ [((nameR s).1.text, q.1)]) _ hnd hok
      rw [recT_append] at this
      rw [List.map_append] at this
      exact this
  ·rw [if_neg h1, if_neg h1]
   exact ⟨rfl, fun _ => ⟨rfl, h⟩⟩
end Go.Ag
/- Package parse: record, plain. -/
namespace Go.Ag
open Go
variable {T : Tab} {L : Lnk}
theorem CallR.to {f : Nat} {args : List AVal} {H0 H1 : Heap} {r0 : ARet} (h : CallR L f args H0 r0 H1) (hlen : H1.length = H0.length) (hargs : ∀ x ∈ args, Low H0.length x) (h0 : ∀ o ∈ H0, LowO H0.length o) (hy : Low H0.length r0.v) (h1 : ∀ o ∈ H1, LowO H0.length o)
  {H : Heap} {K KP : AVal → Heap → Prop} (J : Heap) (hH : H = H0 ++ J) (hk : contR K KP r0 (H1 ++ J)) : ACalls L f args H (contR K KP) := by
 subst hH
 exact (CallR.at h hlen hargs h0 hy h1 J).mono fun r H' ⟨e1, e2⟩ => by subst e1 e2; exact hk
theorem ACalls.to1 {f : Nat} {args : List AVal} {H H1 : Heap} {y : AVal} (h : ACalls L f args H fun r H' => r = .ret y ∧ H' = H1) {K KP : AVal → Heap → Prop} (hk : K y H1) : ACalls L f args H (contR K KP) :=
 h.mono fun r H' ⟨e1, e2⟩ => by subst e1 e2; exact hk
structure ParLib (L : Lnk) : Prop where
 sort : ∀ (l : List Bytes) (n id t : Nat) (H : Heap), H[id]? = some (.arr n (strA l) t) → n = l.length → l ≠ [] → l.length ≤ 2 ^ 40 →
  ACalls L 200 [.vec id n 1 0 n] H fun r H' => r = .ret (.tup []) ∧ H' = H.set id (.arr n (strA (sortB l)) t)
 sort0 : ∀ H : Heap, ACalls L 200 [.lst [] .nil] H fun r H' => r = .ret (.tup []) ∧ H' = H
def recFree : List AVal := [.ptr 4 0, .ptr 5 0, .ptr 7 0, .ptr 9 0]
theorem entsT_low (n : Nat) : ∀ (l : List (Bytes × TA)) (k : Nat), ∀ e ∈ entsT l k, Low n e.1 ∧ Low n e.2.1
 | [], k, e, h => by cases h
 | p :: l, k, e, h => by
  rcases List.mem_cons.1 h with rfl | h
  ·exact ⟨.str _, low_ta _ _⟩
  ·exact entsT_low n l (k + 1) e h
theorem low_vobj {n t : Nat} {xs : List AVal} (h : ∀ z ∈ xs, Low n z) : LowO n (vobj xs t) := by
 cases xs with
 | nil => exact trivial
 | cons y ys => exact h
theorem low_vval {n k id : Nat} {xs : List AVal} (h : id < n) : Low n (vval xs k id) := by
 cases xs with
 | nil => exact .lst _ _ trivial low0
 | cons y ys => exact .vec _ _ _ _ _ h
theorem recO_low (d : Nat) (x : List (Bytes × TA)) : ∀ i, i < 8 → LowO 10 (recO d x i)
 | 0, _ => low_vobj (fun z hz => by
   obtain ⟨b, _, rfl⟩ := List.mem_map.1 hz
   exact .str b)
 | 1, _ => trivial
 | 2, _ => lowC ⟨.ptr _ _ (by decide : 1 < 10), trivial⟩
 | 3, _ => lowC ⟨.int _ _, trivial⟩
 | 4, _ => lowC ⟨.int _ _, .str _, .lst _ _ trivial low0, .lst _ _ trivial low0, trivial⟩
 | 5, _ => lowC ⟨low_vval (by decide : 2 < 10), trivial⟩
 | 6, _ => fun e he => entsT_low 10 x 0 e he
 | 7, _ => lowC ⟨.map _ (by decide : 8 < 10), trivial⟩
 | n + 8, h => by omega
theorem rec_ok (F : ParFns T) (N : Nat) (ih : ∀ m, m ≤ N → PTy T m) (d : Nat) (hd : d ≤ 64) : FieldsOK T (recO d) (recSt d) (fun x seen => x.map (·.1) = seen) 307 recFree N where
 lfree := fun x hx => by
  simp only [recFree, List.mem_cons, List.not_mem_nil, or_false] at hx
  rcases hx with rfl | rfl | rfl | rfl <;> exact .ptr _ _ (by decide)
 loo := recO_low d
 le := fun n nm x s hs => (le_types n).1 (d + 1) s hs
 none := fun n x s seen h => by rw [recSt, recStep, if_pos (.inl rfl)]; exact h
 some := fun n nm x s seen h h1 h2 h3 => by
  simp only [recSt, recStep] at h3 ⊢
  rw [if_neg (fun e => e.elim h1 fun e => by rw [h3] at e; cases e), List.map_append, h]; rfl
 item := fun n nm x s seen h1 h2 h3 h4 h5 h6 h7 h8 => by
  subst h5
  refine CallR.of 0 rfl (low_outP low_unit) (low_itemH (recO_low d) _ _) ((recItem_spec F ih d hd n nm x s h1 h2 h3 (by omega) (by rw [List.length_map] at h6; exact h6) h7).mono fun r H' ⟨J, e1, e2⟩ => ⟨_, J, e1, by rw [e2, List.append_assoc]; rfl, rfl, fun i o o' h1 h2 => by rw [h1] at h2; cases h2; exact WeakO.refl o⟩)
theorem flat_strA (l : List Bytes) : flat (strA l) = strA l := by
 induction l with
 | nil => rfl
 | cons s l ih =>
  show (AVal.str s).cells ++ flat (strA l) = _
  rw [ih]; rfl
theorem load_elem {H : Heap} {id n t i : Nat} {l : List Bytes} (h : H[id]? = some (.arr n (strA l) t)) (hi : i < l.length) : loadAt H none (.eptr id n i) = some (.str l[i]) := by
 simp only [loadAt, cellsAt, h, flat_strA]
 rw [if_pos ⟨trivial, by rw [strA_len]; omega⟩]
 have : ((strA l).drop i).take 1 = [.str l[i]] := by
  unfold strA
  rw [List.drop_eq_getElem_cons (by simpa using hi)]
  simp
 rw [this]
theorem lookM_T {H : Heap} {id c : Nat} {x : List (Bytes × TA)} {nm : Bytes} {z : AVal} (h : H[id]? = some (.map (entsT x 0) c)) (hm : nm ∈ x.map (·.1)) : lookM 1 z false H (.map id) (.str nm) = some (lookP x nm).av := by
 simp only [lookM, entsOf, h, findT, Option.map_some, lookV]
 obtain ⟨p, hp, hpn⟩ := List.mem_map.1 hm
 have h1 : (x.find? (·.1 == nm)).isSome = true := by
  rw [List.find?_isSome]
  exact ⟨p, hp, by simpa using hpn⟩
 have h2 : (x.findIdx? (·.1 == nm)).isSome = true := by
  rw [List.findIdx?_isSome, List.any_eq_true]
  exact ⟨p, hp, by simpa using hpn⟩
 obtain ⟨q, hq⟩ := Option.isSome_iff_exists.1 h1
 obtain ⟨j, hj⟩ := Option.isSome_iff_exists.1 h2
 unfold lookP
 rw [hq, hj]
 rfl
theorem fieldsG_len (d : Nat) : ∀ (n : Nat) (seen : List Bytes) (x : List (Bytes × TA)) (s : RS), s.ok → (fieldsG kColon (recSt d) n seen x s).1.length ≤ x.length + s.rem
 | 0, seen, x, s, hs => by rw [fieldsG]; dsimp only; omega
 | n + 1, seen, x, s, hs => by
  rw [fieldsG]
  split
  ·split
   ·dsimp only; omega
   ·rename_i _ h2
    have h2' : (takeR (nameR s).2 kColon).bad = false := by simpa using h2
    have htr := two_rem hs kColon h2'
    split
    ·have k1 := twice_le hs kColon h2'
     have k3 := (le_types n).1 (d + 1) _ (hs.of k1)
     have k4 := comma_le ((hs.of k1).of k3)
     have := fieldsG_len d n seen (recSt d n [] x (twiceR (takeR (nameR s).2 kColon) (nameR s).1)).1 _ (((hs.of k1).of k3).of k4)
     have hx : (recSt d n [] x (twiceR (takeR (nameR s).2 kColon) (nameR s).1)).1 = x := by rw [recSt, recStep, if_pos (.inl rfl)]
     rw [hx] at this ⊢
     have r1 := k1.rem
     have r3 := k3.rem
     have r4 := k4.rem
     refine Nat.le_trans this ?_
     omega
    ·have k2 := (name_le hs).trans (take_le (hs.of (name_le hs)) kColon)
     have k3 := (le_types n).1 (d + 1) _ (hs.of k2)
     have k4 := comma_le ((hs.of k2).of k3)
     have := fieldsG_len d n (seen ++ [(nameR s).1.text]) (recSt d n (nameR s).1.text x (takeR (nameR s).2 kColon)).1 _ (((hs.of k2).of k3).of k4)
     have hx : (recSt d n (nameR s).1.text x (takeR (nameR s).2 kColon)).1.length ≤ x.length + 1 := by
      rw [recSt, recStep]
      dsimp only
      split
      ·omega
      ·simp
     have r3 := k3.rem
     have r4 := k4.rem
     refine Nat.le_trans this ?_
     omega
  ·dsimp only; omega
theorem record_spec (F : ParFns T) (h318 : T.has 318 c_318) (h28 : T.has 28 c_28) (B : ParLib T.L) (N : Nat) (ih : ∀ m, m ≤ N → PTy T m) (d : Nat) (hd : d ≤ 64) (s : RS) (hs : s.ok) (hb : s.bad = false) (hf : 6 * s.rem + 7 ≤ N) :
  PC T.L 293 [.int .i64 d] s (fieldsR N d (.mk 5 [] [] []) s).1.av (fieldsR N d (.mk 5 [] [] []) s).2 := by
 refine PC.of 2 (low_ta _ _) (ACalls.freeze (acallsG F.h293 (by simp [c_293]) ?_))
 have hrel := fields_rel d N [] s List.nodup_nil hs
 rw [show recT [] = .mk 5 [] [] [] from rfl] at hrel
 have hfs := fields_spec F h318 h28 (rec_ok F N ih d hd) kColon N [] s (Nat.le_refl _) hs hb hf rfl
 rw [show ([] : List (Bytes × TA)).map (·.1) = [] from rfl] at hrel
 have hlen : (fieldsG kColon (recSt d) N [] [] s).1.length ≤ 2 ^ 34 := by
  have h1 := fieldsG_len d N [] [] s hs
  have h2 := hs.len
  have h3 : s.rem ≤ s.toks.length := by unfold RS.rem; omega
  rw [List.length_nil] at h1
  omega
 generalize fieldsG kColon (recSt d) N [] [] s = G at hrel hfs hlen
 generalize fieldsR N d (.mk 5 [] [] []) s = R at hrel ⊢
 obtain ⟨x', s'⟩ := G
 obtain ⟨t, s''⟩ := R
 dsimp only at hrel hfs hlen ⊢
 obtain ⟨rfl, hrel⟩ := hrel
 conv => whnf
 refine hfs.to rfl (fun z hz => ?_) (low_itemH (recO_low d) _ _) (low_outP low_unit) (low_itemH (recO_low d) _ _) [] (by rfl) ?_
 ·simp only [List.mem_cons, List.not_mem_nil, or_false] at hz
  rcases hz with rfl | rfl | rfl
  ·exact .ptr _ _ (show 1 < 10 by decide)
  ·exact .str _
  ·exact .fn _ _ _ low0 (rec_ok F N ih d hd).lfree
 cases hb' : s''.bad
 ·obtain ⟨rfl, hnd⟩ := hrel hb'
  obtain ⟨l, hl⟩ : ∃ l, x'.map (·.1) = l := ⟨_, rfl⟩
  have hll : l.length = x'.length := by rw [← hl, List.length_map]
  cases x' with
  | nil =>
   conv => whnf
   refine (B.sort0 _).to1 ?_
   conv => whnf
   intro I hI hG
   apply hI
   conv => whnf
   refine .inl (PPost.ret hb' ?_ rfl)
   show Weak T.L _ (TA.mk 5 [] [] []).av
   rw [TA.av]
   exact Weak.agg ⟨Weak.refl _, Weak.refl _, Weak.tok _ _, Weak.tok _ _, trivial⟩
  | cons p x0 =>
   obtain ⟨x', hx'⟩ : ∃ x', p :: x0 = x' := ⟨_, rfl⟩
   have hlne : l ≠ [] := by rw [← hl]; simp
   rw [hx'] at hl hnd hll hlen ⊢
   obtain ⟨n, hn⟩ : ∃ n, n = l.length := ⟨_, rfl⟩
   have hH0 : itemH (recO d) x' = [.arr n (strA l) 10, .dead, .cells [.ptr 1 0] 225, .cells [.int .i64 d] 4, .cells zeroC4 175, .cells [.vec 2 n 1 0 n] 43, .map (entsT x' 0) x'.length, .cells [.map 8] 231] := by
    have e1 : namesT x' = strA l := by unfold namesT; rw [hl]
    have e2 : strA l ≠ [] := by unfold strA; simpa using hlne
    have e3 : n = (strA l).length := by rw [strA_len, hn]
    rw [e3, ← e1, ← vobj_ne (by rw [e1]; exact e2), ← vval_ne (by rw [e1]; exact e2)]
    rfl
   rw [hH0]
   have hS : (recP x').map (·.1) = sortB l := by rw [recP_names x' hnd, hl]
   have hV : (recP x').map (·.2) = (sortB l).map (lookP x') := by rw [recP_vals x' hnd, hl]
   have hlook : ∀ {H : Heap} {c : Nat} {nm : Bytes} {z : AVal}, H[8]? = some (.map (entsT x' 0) c) → nm ∈ sortB l → lookM 1 z false H (.map 8) (.str nm) = some (lookP x' nm).av := fun h1 h2 =>
    lookM_T h1 (by rw [hl]; exact (sortB_perm l).mem_iff.1 h2)
   generalize entsT x' 0 = E at hlook ⊢
   conv => whnf
   refine (B.sort l n 2 10 _ rfl hn hlne (by omega)).to1 ?_
   have hSl : (sortB l).length = n := by rw [hn]; exact (sortB_perm l).length_eq
   generalize sortB l = S at hS hV hlook hSl ⊢
   obtain ⟨Ls, hLs⟩ : ∃ Ls, S.map (lookP x') = Ls := ⟨_, rfl⟩
   rw [hLs] at hV
   have hLl : Ls.length = n := by rw [← hLs, List.length_map, hSl]
   conv => whnf
   intro I hI hG
   have key : ∀ (m k : Nat) (e : Env), n - k = m → k ≤ n → I (setL e [(4, .ptr 6 0), (6, .ptr 9 0), (7, .ptr 10 0), (18, .vec 2 n 1 0 n), (19, .int .i64 n), (20, .int .i64 k)])
     (pheap s'' ++ [.arr n (strA S) 10, dobj (TA.avs (Ls.take k)).length 175, .cells [.ptr 1 0] 225, .cells [.int .i64 d] 4, .cells zeroC4 175, .cells [.vec 2 n 1 0 n] 43, .map E x'.length, .cells [.map 8] 231,
      .cells [.int .i64 5, .str [], .vec 2 n 1 0 n, .lst (TA.avs (Ls.take k)) (dtok (TA.avs (Ls.take k)).length 3)] 175]) := by
    intro m
    induction m with
    | zero =>
     intro k e hm hk
     have hkn : k = n := by omega
     apply hI
     conv => whnf
     rw [lt_false (by omega)]
     conv => whnf
     rw [show Ls.take k = Ls from List.take_of_length_le (by omega)]
     obtain rfl : n = (strA S).length := by rw [strA_len]; exact hSl.symm
     refine .inr ⟨2, strA S, 10, 1, .ret _, rfl, ?_, PPost.ret hb' (Weak.refl _) rfl⟩
     show WeakG _ T.L _ (recT x').av
     rw [recT, hS, hV, TA.av]
     exact WeakG.agg ⟨WeakG.refl _, WeakG.refl _, WeakG.froze, WeakG.of (Weak.tok _ _), trivial⟩
    | succ m ihm =>
     intro k e hm hk
     have hlt : k < n := by omega
     apply hI
     conv => whnf
     rw [lt_true hlt]
     conv => whnf
     refine ⟨⟨Int.natCast_nonneg _, by omega, rfl⟩, ?_⟩
     conv => whnf
     rw [show (0 + ((k : Nat) : Int).toNat) * 1 = k from by simp, load_elem (l := S) (n := n) (t := 10) ?_ (by omega)]
     ·conv => whnf
      rw [hlook (nm := S[k]) (c := x'.length) ?_ (List.getElem_mem _)]
      ·have htk : TA.avs (Ls.take (k + 1)) = TA.avs (Ls.take k) ++ [(lookP x' S[k]).av] := by
        have hk1 : k < Ls.length := by omega
        have hk2 : Ls[k] = lookP x' S[k] := by subst hLs; simp
        rw [List.take_succ_eq_append_getElem hk1, tas_append, hk2]; rfl
       have hlk : (TA.avs (Ls.take k)).length = k := by rw [tas_len]; simp; omega
       have hsz := sized_tas (Ls.take k)
       have hnext := fun e => ihm (k + 1) e (by omega) (by omega)
       rw [htk] at hnext
       generalize lookP x' S[k] = v at hnext ⊢
       generalize TA.avs (Ls.take k) = YS at hnext hlk hsz ⊢
       obtain ⟨vk, vn, vs, vl⟩ := v
       conv => whnf
       refine app_slot (id := 3) hsz (sized_one rfl) (by simp [hlk]; omega) (by simp [hlk]; omega) (by simp) rfl ?_
       conv => whnf
       exact inv_of [(4, .ptr 6 0), (6, .ptr 9 0), (7, .ptr 10 0), (18, .vec 2 n 1 0 n), (19, .int .i64 n), (20, .int .i64 (k + 1 : Nat))] ⟨rfl, rfl, rfl, rfl, rfl, add1 (by omega), trivial⟩ (hnext _)
      ·rfl
     ·rfl
   exact inv_of [(4, .ptr 6 0), (6, .ptr 9 0), (7, .ptr 10 0), (18, .vec 2 n 1 0 n), (19, .int .i64 n), (20, .int .i64 0)] ⟨rfl, rfl, rfl, rfl, rfl, rfl, trivial⟩ (key n 0 _ rfl (Nat.zero_le _))
 ·conv => whnf
  exact .inl (PPost.pan hb' rfl)
end Go.Ag
/- Package parse: plain types; all of types. -/
namespace Go.Ag
open Go
variable {T : Tab} {L : Lnk}
structure TyFns (T : Tab) : Prop extends ParFns T where
 h318 : T.has 318 c_318
 h28 : T.has 28 c_28
 lib : ParLib T.L
theorem weak_mk (k : Int) (nm : Bytes) {t1 t2 : Tok} : Weak L (.agg [.int .i64 k, .str nm, .lst [] t1, .lst [] t2]) (TA.mk k nm [] []).av := by
 rw [TA.av]
 exact Weak.agg ⟨Weak.refl _, Weak.refl _, Weak.tok _ _, Weak.tok _ _, trivial⟩
theorem pplain_step (F : TyFns T) (n : Nat) (ih : ∀ m, m ≤ n → PTy T m) (d : Nat) (s : RS) (hs : s.ok) (hb : s.bad = false) (hd : d ≤ 64) (hf : 6 * s.rem + 4 ≤ n + 1) : PC T.L 249 [.int .i64 d] s (plainR (n + 1) d s).1.av (plainR (n + 1) d s).2 := by
 refine PC.of 0 (low_ta _ _) (acallsG F.h249 (by simp [c_249]) ?_)
 obtain ⟨R, hR⟩ : ∃ R, plainR (n + 1) d s = R := ⟨_, rfl⟩
 rw [hR]
 rw [plainR, if_neg (by simp [hb])] at hR
 have F' := F.toParFns
 conv => whnf
 refine F'.here hs hb _ rfl ?_
 conv => whnf
 have next : ∀ w, isR s w = true → (takeR s w).bad = false := fun w h => by rw [take_yes h]; exact hb
 cases hk : (s.tok.kind == 1)
 ·rw [if_neg (by simpa using hk)] at hR
  conv => whnf
  refine F'.take hs hb kInt _ rfl (fun h1 => ?_) fun h1 => ?_
  ·rw [if_neg (by simp [h1])] at hR
   conv => whnf
   refine F'.take hs hb kBool _ rfl (fun h2 => ?_) fun h2 => ?_
   ·rw [if_neg (by simp [h2])] at hR
    conv => whnf
    refine F'.take hs hb kText _ rfl (fun h3 => ?_) fun h3 => ?_
    ·rw [if_neg (by simp [h3])] at hR
     conv => whnf
     refine F'.take hs hb kDyn _ rfl (fun h4 => ?_) fun h4 => ?_
     ·rw [if_neg (by simp [h4])] at hR
      conv => whnf
      refine F'.take hs hb kLb _ rfl (fun h5 => ?_) fun h5 => ?_
      ·rw [if_neg (by simp [h5])] at hR
       conv => whnf
       refine F'.want hs hb kLp _ rfl (fun h6 => ?_) fun h6 => ?_
       ·rw [if_neg (by simp [h6])] at hR
        have hs1 := hs.of (take_le hs kLp)
        have hr1 := take_rem hs (take_bad h6).2.1
        generalize takeR s kLp = s1 at h6 hs1 hr1 hR ⊢
        conv => whnf
        rw [addN (by omega)]
        have ht := (ih n (Nat.le_refl _)).typ (d + 1) s1 hs1 h6 (by omega) (by omega)
        have hle := (le_types n).1 (d + 1) s1 hs1
        generalize typeR n (d + 1) s1 = q at ht hle hR ⊢
        obtain ⟨⟨k', nm', ns', l'⟩, s2⟩ := q
        dsimp only at ht hle hR ⊢
        refine ht.to (low1 (.int _ _)) (low_ta _ _) _ rfl (fun h7 => ?_) fun h7 => ?_
        ·conv => whnf
         refine F'.want (hs1.of hle) h7 kRp _ rfl (fun h8 => ?_) fun h8 => ?_
         ·subst hR
          conv => whnf
          exact PPost.ret h8 (Weak.refl _) rfl
         ·subst hR
          conv => whnf
          exact PPost.pan h8 rfl
        ·rw [takeR_bad h7] at hR
         subst hR
         conv => whnf
         exact PPost.pan h7 rfl
       ·rw [if_pos h6] at hR
        subst hR
        conv => whnf
        exact PPost.pan h6 rfl
      ·rw [if_pos h5] at hR
       conv => whnf
       have hb1 := next _ h5
       have hs1 := hs.of (take_le hs kLb)
       have hr1 := take_rem hs h5
       generalize takeR s kLb = s1 at hb1 hs1 hr1 hR ⊢
       have hq := record_spec F' F.h318 F.h28 F.lib n ih d hd s1 hs1 hb1 (by omega)
       rw [hR] at hq
       obtain ⟨⟨k', nm', ns', l'⟩, s2⟩ := R
       refine hq.to (low1 (.int _ _)) (low_ta _ _) _ rfl (fun h7 => ?_) fun h7 => ?_
       ·conv => whnf
        exact PPost.ret h7 (Weak.refl _) rfl
       ·conv => whnf
        exact PPost.pan h7 rfl
     ·rw [if_pos h4] at hR
      subst hR
      conv => whnf
      exact PPost.ret (next _ h4) (weak_mk 4 []) rfl
    ·rw [if_pos h3] at hR
     subst hR
     conv => whnf
     exact PPost.ret (next _ h3) (weak_mk 3 []) rfl
   ·rw [if_pos h2] at hR
    subst hR
    conv => whnf
    exact PPost.ret (next _ h2) (weak_mk 2 []) rfl
  ·rw [if_pos h1] at hR
   subst hR
   conv => whnf
   exact PPost.ret (next _ h1) (weak_mk 1 []) rfl
 ·rw [if_pos (by simpa using hk)] at hR
  subst hR
  conv => whnf
  rw [addN hs.i]
  exact PPost.ret hb (weak_mk 8 _) rfl
theorem pty_all (F : TyFns T) : ∀ n, PTy T n := fun n => Nat.strongRecOn n fun n ih => by
 cases n with
 | zero => exact ⟨fun d s hs hb hd hf => by omega, fun d s hs hb hd hf => by omega, fun d s hs hb hd hf => by omega⟩
 | succ n =>
  have ih' : ∀ m, m ≤ n → PTy T m := fun m hm => ih m (by omega)
  exact ⟨fun d s hs hb hd hf => ptyp_step F.toParFns n ih' d s hs hb hd hf, fun d s hs hb hd hf => parrow_step F.toParFns n ih' d s hs hb hd hf, fun d s hs hb hd hf => pplain_step F n ih' d s hs hb hd hf⟩
end Go.Ag
/- Abstract codes, printed by a program of ours (acode.py) out of the given program's form. -/
namespace Go.Ag
open Go
def c_215 : AFunc := (.mk 1 30 [2,3] (.seq (.ops [(.d 2 (.mv (.const .nl))),(.d 3 (.mv (.const .nl)))]) (.seq (.ops [(.d 5 (.mv 0)),(.d 6 (.build [(.str []),(.i 0),.nl,.nl] [(0,(1,5))])),(.d 7 (.box 299 6)),(.d 4 (.mv 7))]) (.seq (.block 0 (.loop (.seq (.seq (.ops [(.d 8 (.mv 4)),(.d 9 (.nilck 8)),(.d 10 (.faddr 1 9)),(.d 11 (.load none 10)),(.d 12 (.mv 0)),(.d 13 (.lenS 12)),(.d 14 (.bin .lss 11 13))]) (.cond 14 .skip (.exit 0))) (.block 1 (.ops [(.d 15 (.mv 4)),(.d 16 (.call 246 [15]))]))))) (.seq (.draw [(.d 17 (.mv 4)),(.d 18 (.nilck 17)),(.d 19 (.faddr 2 18)),(.d 20 (.load none 19)),(.d 21 (.mv 0)),(.d 22 (.lenS 21)),(.d 23 (.build [(.i 0),(.i 0),(.str [])] [(0,(1,(.const (.i 6)))),(1,(1,22)),(2,(1,(.const (.str []))))])),(.d 24 (.lit 3 32 [] 1 [(0,23)])),(.d 26 (.mv 4)),(.d 27 (.nilck 26)),(.d 28 (.faddr 3 27)),(.d 29 (.load none 28))] [(.d 25 (.append 3 32 282 20 24)),(.d 2 (.mv 25)),(.d 3 (.mv 29))]) .ret)))))
def c_246 : AFunc := (.mk 1 119 [] (.seq (.draw [(.d 5 (.mv 0)),(.d 6 (.nilck 5)),(.d 7 (.faddr 0 6)),(.d 8 (.load none 7)),(.d 9 (.mv 0)),(.d 10 (.nilck 9)),(.d 11 (.faddr 1 10)),(.d 12 (.load none 11)),(.d 13 (.idxS 8 12)),(.d 2 (.mv 13))] []) (.block 0 (.seq (.ops [(.d 24 (.mv 2)),(.d 25 (.bin .eql 24 (.const (.int .u8 32)))),(.d 26 (.mv 25)),(.g 27 (.mv 2) 26 false),(.g 28 (.bin .eql 27 (.const (.int .u8 9))) 26 false),(.d 29 (.pick 26 (.const (.bool true)) 28)),(.d 30 (.mv 29)),(.g 31 (.mv 2) 30 false),(.g 32 (.bin .eql 31 (.const (.int .u8 10))) 30 false),(.d 33 (.pick 30 (.const (.bool true)) 32)),(.d 34 (.mv 33)),(.g 35 (.mv 2) 34 false),(.g 36 (.bin .eql 35 (.const (.int .u8 13))) 34 false),(.d 37 (.pick 34 (.const (.bool true)) 36)),(.d 23 (.mv 37))]) (.cond 23 (.ops [(.d 38 (.mv 0)),(.d 39 (.nilck 38)),(.d 40 (.faddr 1 39)),(.d 41 (.load none 40)),(.d 42 (.bin .add 41 (.const (.i 1)))),(.d 43 (.nilck 38)),(.d 44 (.faddr 1 43)),(.n (.store 1 44 42))]) (.seq (.ops [(.d 46 (.mv 2)),(.d 47 (.bin .eql 46 (.const (.int .u8 35)))),(.d 45 (.mv 47))]) (.cond 45 (.drawt [(.d 48 (.mv 0)),(.d 49 (.nilck 48)),(.d 50 (.faddr 1 49)),(.d 51 (.load none 50)),(.d 52 (.mv 0)),(.d 53 (.mv 0)),(.d 54 (.nilck 53)),(.d 55 (.faddr 1 54)),(.d 56 (.load none 55))] (.alt (.d 57 (.call 282 [52,56,(.const (.fn (.func 283) [] []))])) [(none,50)] (.alt (.d 58 (.bin .add 51 57)) [] (.alt (.d 59 (.nilck 48)) [] (.alt (.d 60 (.faddr 1 59)) [] (.alt (.n (.store 1 60 58)) [] .done .stop) .stop) .stop) .stop) .stop)) (.seq (.ops [(.d 62 (.mv 2)),(.d 63 (.call 284 [62])),(.d 61 (.mv 63))]) (.cond 61 (.seq (.ops [(.d 64 (.mv 0)),(.d 65 (.mv 0)),(.d 66 (.nilck 65)),(.d 67 (.faddr 1 66)),(.d 68 (.load none 67)),(.d 69 (.call 282 [64,68,(.const (.fn (.func 285) [] []))])),(.d 3 (.mv 69))]) (.seq (.ops [(.d 4 (.mv (.const (.i 1))))]) (.seq (.seq (.draw [(.d 70 (.mv 0)),(.d 71 (.nilck 70)),(.d 72 (.faddr 0 71)),(.d 73 (.load none 72)),(.d 74 (.mv 0)),(.d 75 (.nilck 74)),(.d 76 (.faddr 1 75)),(.d 77 (.load none 76)),(.d 78 (.mv 0)),(.d 79 (.nilck 78)),(.d 80 (.faddr 1 79)),(.d 81 (.load none 80)),(.d 82 (.mv 3)),(.d 83 (.bin .add 81 82)),(.d 84 (.slcS 73 (some 77) (some 83)))] [(.d 85 (.call 286 [84]))]) (.cond 85 (.ops [(.d 4 (.mv (.const (.i 2))))]) .skip)) (.ops [(.d 86 (.mv 0)),(.d 87 (.mv 4)),(.d 88 (.mv 3)),(.d 89 (.call 287 [86,87,88]))])))) (.seq (.ops [(.d 91 (.mv 2)),(.d 92 (.call 288 [91])),(.d 90 (.mv 92))]) (.cond 90 (.ops [(.d 93 (.mv 0)),(.d 94 (.call 289 [93]))]) (.seq (.ops [(.d 96 (.mv 2)),(.d 97 (.bin .eql 96 (.const (.int .u8 34)))),(.d 95 (.mv 97))]) (.cond 95 (.ops [(.d 98 (.mv 0)),(.d 99 (.call 290 [98]))]) (.seq (.draw [(.d 101 (.mv 0)),(.d 102 (.nilck 101)),(.d 103 (.faddr 0 102)),(.d 104 (.load none 103)),(.d 105 (.mv 0)),(.d 106 (.nilck 105)),(.d 107 (.faddr 1 106)),(.d 108 (.load none 107)),(.d 109 (.slcS 104 (some 108) none))] [(.d 110 (.call 291 [109,(.const (.str [45,62]))])),(.d 100 (.mv 110))]) (.cond 100 (.ops [(.d 111 (.mv 0)),(.d 112 (.call 287 [111,(.const (.i 5)),(.const (.i 2))]))]) (.seq (.ops [(.d 114 (.mv 2)),(.d 115 (.call 49 [(.const (.str [61,58,59,44,46,40,41,123,125,124,63])),114])),(.d 116 (.bin .geq 115 (.const (.i 0)))),(.d 113 (.mv 116))]) (.cond 113 (.ops [(.d 117 (.mv 0)),(.d 118 (.call 287 [117,(.const (.i 5)),(.const (.i 1))]))]) (.seq (.ops [(.d 14 (.mv 0)),(.d 15 (.call 292 [14,(.const (.i 1))]))]) (.ops [(.d 16 (.mv 0)),(.d 17 (.nilck 16)),(.d 18 (.faddr 1 17)),(.d 19 (.load none 18)),(.d 20 (.bin .add 19 (.const (.i 1)))),(.d 21 (.nilck 16)),(.d 22 (.faddr 1 21)),(.n (.store 1 22 20))])))))))))))))))))))
def c_282 : AFunc := (.mk 3 32 [6] (.seq (.ops [(.d 6 (.mv (.const (.i 0))))]) (.seq (.ops [(.d 7 (.mv (.const (.i 0))))]) (.seq (.block 0 (.loop (.seq (.seq (.ops [(.d 8 (.mv 1)),(.d 9 (.mv 7)),(.d 10 (.bin .add 8 9)),(.d 11 (.mv 0)),(.d 12 (.nilck 11)),(.d 13 (.faddr 0 12)),(.d 14 (.load none 13)),(.d 15 (.lenS 14)),(.d 16 (.bin .lss 10 15)),(.d 17 (.mv 16)),(.g 18 (.mv 2) 17 true),(.g 19 (.mv 0) 17 true),(.g 20 (.nilck 19) 17 true),(.g 21 (.faddr 0 20) 17 true),(.g 22 (.load none 21) 17 true),(.g 23 (.mv 1) 17 true),(.g 24 (.mv 7) 17 true),(.g 25 (.bin .add 23 24) 17 true),(.g 26 (.idxS 22 25) 17 true),(.g 27 (.callv 18 [26]) 17 true),(.d 28 (.pick 17 27 (.const (.bool false))))]) (.cond 28 .skip (.exit 0))) (.block 1 (.ops [(.d 29 (.mv 7)),(.d 30 (.bin .add 29 (.const (.i 1)))),(.d 7 (.mv 30))]))))) (.seq (.ops [(.d 31 (.mv 7)),(.d 6 (.mv 31))]) .ret)))))
def c_283 : AFunc := (.mk 1 5 [2] (.seq (.ops [(.d 2 (.mv (.const (.bool false))))]) (.seq (.ops [(.d 3 (.mv 0)),(.d 4 (.bin .neq 3 (.const (.int .u8 10)))),(.d 2 (.mv 4))]) .ret)))
def c_284 : AFunc := (.mk 1 13 [2] (.seq (.ops [(.d 2 (.mv (.const (.bool false))))]) (.seq (.ops [(.d 3 (.mv 0)),(.d 4 (.bin .geq 3 (.const (.int .u8 97)))),(.d 5 (.mv 4)),(.g 6 (.mv 0) 5 true),(.g 7 (.bin .leq 6 (.const (.int .u8 122))) 5 true),(.d 8 (.pick 5 7 (.const (.bool false)))),(.d 9 (.mv 8)),(.g 10 (.mv 0) 9 false),(.g 11 (.bin .eql 10 (.const (.int .u8 95))) 9 false),(.d 12 (.pick 9 (.const (.bool true)) 11)),(.d 2 (.mv 12))]) .ret)))
def c_285 : AFunc := (.mk 1 9 [2] (.seq (.ops [(.d 2 (.mv (.const (.bool false))))]) (.seq (.ops [(.d 3 (.mv 0)),(.d 4 (.call 284 [3])),(.d 5 (.mv 4)),(.g 6 (.mv 0) 5 false),(.g 7 (.call 288 [6]) 5 false),(.d 8 (.pick 5 (.const (.bool true)) 7)),(.d 2 (.mv 8))]) .ret)))
def c_286 : AFunc := (.mk 1 18 [2] (.seq (.ops [(.d 2 (.mv (.const (.bool false))))]) (.seq (.seq (.ops [(.d 3 (.mv 0))]) (.block 0 (.seq (.seq (.ops [(.d 5 (.bin .eql 3 (.const (.str [117,115,101])))),(.d 4 (.mv 5))]) (.cond 4 .skip (.seq (.ops [(.d 6 (.bin .eql 3 (.const (.str [116,121,112,101])))),(.d 4 (.mv 6))]) (.cond 4 .skip (.seq (.ops [(.d 7 (.bin .eql 3 (.const (.str [108,101,116])))),(.d 4 (.mv 7))]) (.cond 4 .skip (.seq (.ops [(.d 8 (.bin .eql 3 (.const (.str [105,110])))),(.d 4 (.mv 8))]) (.cond 4 .skip (.seq (.ops [(.d 9 (.bin .eql 3 (.const (.str [105,102])))),(.d 4 (.mv 9))]) (.cond 4 .skip (.seq (.ops [(.d 10 (.bin .eql 3 (.const (.str [116,104,101,110])))),(.d 4 (.mv 10))]) (.cond 4 .skip (.seq (.ops [(.d 11 (.bin .eql 3 (.const (.str [101,108,115,101])))),(.d 4 (.mv 11))]) (.cond 4 .skip (.seq (.ops [(.d 12 (.bin .eql 3 (.const (.str [102,117,110])))),(.d 4 (.mv 12))]) (.cond 4 .skip (.seq (.ops [(.d 13 (.bin .eql 3 (.const (.str [116,114,117,101])))),(.d 4 (.mv 13))]) (.cond 4 .skip (.seq (.ops [(.d 14 (.bin .eql 3 (.const (.str [102,97,108,115,101])))),(.d 4 (.mv 14))]) (.cond 4 .skip (.seq (.ops [(.d 15 (.bin .eql 3 (.const (.str [105,110,116])))),(.d 4 (.mv 15))]) (.cond 4 .skip (.seq (.ops [(.d 16 (.bin .eql 3 (.const (.str [98,111,111,108])))),(.d 4 (.mv 16))]) (.cond 4 .skip (.ops [(.d 17 (.bin .eql 3 (.const (.str [116,101,120,116])))),(.d 4 (.mv 17))]))))))))))))))))))))))))) (.cond 4 (.seq (.ops [(.d 2 (.mv (.const (.bool true))))]) .ret) .skip)))) (.seq (.ops [(.d 2 (.mv (.const (.bool false))))]) .ret))))
def c_287 : AFunc := (.mk 3 44 [] (.seq (.draw [(.d 6 (.mv 0)),(.d 7 (.mv 0)),(.d 8 (.nilck 7)),(.d 9 (.faddr 2 8)),(.d 10 (.load none 9)),(.d 11 (.mv 1)),(.d 12 (.mv 0)),(.d 13 (.nilck 12)),(.d 14 (.faddr 1 13)),(.d 15 (.load none 14)),(.d 16 (.mv 0)),(.d 17 (.nilck 16)),(.d 18 (.faddr 0 17)),(.d 19 (.load none 18)),(.d 20 (.mv 0)),(.d 21 (.nilck 20)),(.d 22 (.faddr 1 21)),(.d 23 (.load none 22)),(.d 24 (.mv 0)),(.d 25 (.nilck 24)),(.d 26 (.faddr 1 25)),(.d 27 (.load none 26)),(.d 28 (.mv 2)),(.d 29 (.bin .add 27 28)),(.d 30 (.slcS 19 (some 23) (some 29))),(.d 31 (.build [(.i 0),(.i 0),(.str [])] [(0,(1,11)),(1,(1,15)),(2,(1,30))])),(.d 32 (.lit 3 32 [] 1 [(0,31)]))] [(.d 33 (.append 3 32 282 10 32)),(.d 34 (.nilck 6)),(.d 35 (.faddr 2 34)),(.n (.store 1 35 33))]) (.ops [(.d 36 (.mv 0)),(.d 37 (.nilck 36)),(.d 38 (.faddr 1 37)),(.d 39 (.load none 38)),(.d 40 (.mv 2)),(.d 41 (.bin .add 39 40)),(.d 42 (.nilck 36)),(.d 43 (.faddr 1 42)),(.n (.store 1 43 41))])))
def c_288 : AFunc := (.mk 1 9 [2] (.seq (.ops [(.d 2 (.mv (.const (.bool false))))]) (.seq (.ops [(.d 3 (.mv 0)),(.d 4 (.bin .geq 3 (.const (.int .u8 48)))),(.d 5 (.mv 4)),(.g 6 (.mv 0) 5 true),(.g 7 (.bin .leq 6 (.const (.int .u8 57))) 5 true),(.d 8 (.pick 5 7 (.const (.bool false)))),(.d 2 (.mv 8))]) .ret)))
def c_289 : AFunc := (.mk 1 38 [] (.seq (.ops [(.d 3 (.mv 0)),(.d 4 (.mv 0)),(.d 5 (.nilck 4)),(.d 6 (.faddr 1 5)),(.d 7 (.load none 6)),(.d 8 (.call 282 [3,7,(.const (.fn (.func 288) [] []))])),(.d 2 (.mv 8))]) (.seq (.seq (.ops [(.d 9 (.mv 2)),(.d 10 (.bin .leq 9 (.const (.i 18))))]) (.cond 10 (.seq (.ops [(.d 11 (.mv 0)),(.d 12 (.mv 2)),(.d 13 (.call 287 [11,(.const (.i 3)),12]))]) .ret) .skip)) (.seq (.ops [(.d 14 (.mv 0)),(.d 15 (.call 292 [14,(.const (.i 13))]))]) (.seq (.draw [(.d 16 (.mv 0)),(.d 17 (.mv 0)),(.d 18 (.nilck 17)),(.d 19 (.faddr 2 18)),(.d 20 (.load none 19)),(.d 21 (.mv 0)),(.d 22 (.nilck 21)),(.d 23 (.faddr 1 22)),(.d 24 (.load none 23)),(.d 25 (.build [(.i 0),(.i 0),(.str [])] [(0,(1,(.const (.i 3)))),(1,(1,24)),(2,(1,(.const (.str [48]))))])),(.d 26 (.lit 3 32 [] 1 [(0,25)]))] [(.d 27 (.append 3 32 282 20 26)),(.d 28 (.nilck 16)),(.d 29 (.faddr 2 28)),(.n (.store 1 29 27))]) (.ops [(.d 30 (.mv 0)),(.d 31 (.nilck 30)),(.d 32 (.faddr 1 31)),(.d 33 (.load none 32)),(.d 34 (.mv 2)),(.d 35 (.bin .add 33 34)),(.d 36 (.nilck 30)),(.d 37 (.faddr 1 36)),(.n (.store 1 37 35))]))))))
def c_290 : AFunc := (.mk 1 70 [] (.seq (.draw [(.d 9 (.mv 0)),(.d 10 (.nilck 9)),(.d 11 (.faddr 0 10)),(.d 12 (.load none 11)),(.d 13 (.mv 0)),(.d 14 (.nilck 13)),(.d 15 (.faddr 1 14)),(.d 16 (.load none 15)),(.d 17 (.bin .add 16 (.const (.i 1)))),(.d 18 (.slcS 12 (some 17) none)),(.d 2 (.mv 18))] []) (.seq (.ops [(.d 20 (.mv 2)),(.d 21 (.call 22 [20,(.const (.str [10]))])),(.d 19 (.mv 21)),(.d 22 (.ext 19 0)),(.d 23 (.ext 19 1)),(.d 24 (.ext 19 2)),(.d 3 (.mv 22)),(.d 4 (.mv 23)),(.d 5 (.mv 24))]) (.seq (.ops [(.d 26 (.mv 3)),(.d 27 (.call 22 [26,(.const (.str [34]))])),(.d 25 (.mv 27)),(.d 28 (.ext 25 0)),(.d 29 (.ext 25 1)),(.d 30 (.ext 25 2)),(.d 6 (.mv 28)),(.d 7 (.mv 29)),(.d 8 (.mv 30))]) (.seq (.seq (.ops [(.d 31 (.mv 8)),(.d 32 (.un .not 31))]) (.cond 32 (.seq (.ops [(.d 33 (.mv 0)),(.d 34 (.call 292 [33,(.const (.i 1))]))]) (.seq (.ops [(.d 35 (.mv 0)),(.d 36 (.nilck 35)),(.d 37 (.faddr 1 36)),(.d 38 (.load none 37)),(.d 39 (.mv 3)),(.d 40 (.lenS 39)),(.d 41 (.bin .add (.const (.i 1)) 40)),(.d 42 (.bin .add 38 41)),(.d 43 (.nilck 35)),(.d 44 (.faddr 1 43)),(.n (.store 1 44 42))]) .ret)) .skip)) (.seq (.draw [(.d 45 (.mv 0)),(.d 46 (.mv 0)),(.d 47 (.nilck 46)),(.d 48 (.faddr 2 47)),(.d 49 (.load none 48)),(.d 50 (.mv 0)),(.d 51 (.nilck 50)),(.d 52 (.faddr 1 51)),(.d 53 (.load none 52)),(.d 54 (.mv 6)),(.d 55 (.build [(.i 0),(.i 0),(.str [])] [(0,(1,(.const (.i 4)))),(1,(1,53)),(2,(1,54))])),(.d 56 (.lit 3 32 [] 1 [(0,55)]))] [(.d 57 (.append 3 32 282 49 56)),(.d 58 (.nilck 45)),(.d 59 (.faddr 2 58)),(.n (.store 1 59 57))]) (.ops [(.d 60 (.mv 0)),(.d 61 (.nilck 60)),(.d 62 (.faddr 1 61)),(.d 63 (.load none 62)),(.d 64 (.mv 6)),(.d 65 (.lenS 64)),(.d 66 (.bin .add 65 (.const (.i 2)))),(.d 67 (.bin .add 63 66)),(.d 68 (.nilck 60)),(.d 69 (.faddr 1 68)),(.n (.store 1 69 67))])))))))
def c_292 : AFunc := (.mk 2 19 [] (.draw [(.d 4 (.mv 0)),(.d 5 (.mv 0)),(.d 6 (.nilck 5)),(.d 7 (.faddr 3 6)),(.d 8 (.load none 7)),(.d 9 (.mv 0)),(.d 10 (.nilck 9)),(.d 11 (.faddr 1 10)),(.d 12 (.load none 11)),(.d 13 (.mv 1)),(.d 14 (.build [(.i 0),(.i 0),(.str [])] [(0,(1,12)),(1,(1,13))])),(.d 15 (.lit 3 32 [] 1 [(0,14)]))] [(.d 16 (.append 3 32 333 8 15)),(.d 17 (.nilck 4)),(.d 18 (.faddr 3 17)),(.n (.store 1 18 16))]))
def c_291 : AFunc := (.mk 2 8 [4] (.seq (.ops [(.d 4 (.mv (.const (.bool false))))]) (.seq (.ops [(.d 5 (.mv 0)),(.d 6 (.mv 1)),(.d 7 (.call 305 [5,6])),(.d 4 (.mv 7))]) .ret)))
def c_305 : AFunc := (.mk 2 18 [4] (.seq (.ops [(.d 4 (.mv (.const (.bool false))))]) (.seq (.ops [(.d 5 (.mv 0)),(.d 6 (.lenS 5)),(.d 7 (.mv 1)),(.d 8 (.lenS 7)),(.d 9 (.bin .geq 6 8)),(.d 10 (.mv 9)),(.g 11 (.mv 0) 10 true),(.g 12 (.mv 1) 10 true),(.g 13 (.lenS 12) 10 true),(.g 14 (.slcS 11 none (some 13)) 10 true),(.g 15 (.mv 1) 10 true),(.g 16 (.bin .eql 14 15) 10 true),(.d 17 (.pick 10 16 (.const (.bool false)))),(.d 4 (.mv 17))]) .ret)))
end Go.Ag
/- Package lex: what a byte is, words, prefixes. -/
namespace Go.Ag
open Go
variable {T : Tab} {L : Lnk}
theorem u8_all {p : UInt8 → Bool} (h : (List.range 256).all (fun n => p (UInt8.ofNat n)) = true) (c : UInt8) : p c = true := by
 have := List.all_eq_true.1 h c.toNat (List.mem_range.2 c.toNat_lt)
 rwa [show UInt8.ofNat c.toNat = c from UInt8.ofNat_toNat] at this
def begB (n : Int) : Bool := (decide (n ≥ 97) && decide (n ≤ 122)) || (n == 95)
def digB (n : Int) : Bool := decide (n ≥ 48) && decide (n ≤ 57)
theorem beg_eq (c : UInt8) : begB c.toNat = inA c smallL := beq_iff_eq.1 (u8_all (p := fun c => begB c.toNat == inA c smallL) (by kernel_rfl) c)
theorem dig_eq (c : UInt8) : digB c.toNat = inA c digitsL := beq_iff_eq.1 (u8_all (p := fun c => digB c.toNat == inA c digitsL) (by kernel_rfl) c)
theorem alnum_eq (c : UInt8) : inA c alnumL = (inA c smallL || inA c digitsL) := by
 unfold inA
 rw [show alnumL = smallL ++ digitsL from rfl, List.any_append]
theorem low_u8 (c : UInt8) : ∀ x ∈ [AVal.int .u8 c.toNat], Low 0 x := fun x hx => by simp only [List.mem_singleton] at hx; subst hx; exact .int _ _
theorem begins_spec (h : T.has 284 c_284) (c : UInt8) : Pure T.L 284 [.int .u8 c.toNat] (.bool (inA c smallL)) := by
 refine Pure.run (low_u8 c) (.bool _) (acallsG h (by simp [c_284]) ?_)
 rw [← beg_eq]
 generalize (c.toNat : Int) = n
 unfold begB
 conv => whnf
 cases h1 : decide (n ≥ 97)
 ·conv => whnf
  exact ret_weak (Weak.refl _)
 ·conv => whnf
  cases h2 : decide (n ≤ 122)
  ·conv => whnf
   exact ret_weak (Weak.refl _)
  ·conv => whnf
   exact ret_weak (Weak.refl _)
theorem digit_spec (h : T.has 288 c_288) (c : UInt8) : Pure T.L 288 [.int .u8 c.toNat] (.bool (inA c digitsL)) := by
 refine Pure.run (low_u8 c) (.bool _) (acallsG h (by simp [c_288]) ?_)
 rw [← dig_eq]
 generalize (c.toNat : Int) = n
 unfold digB
 conv => whnf
 cases h1 : decide (n ≥ 48)
 ·conv => whnf
  exact ret_weak (Weak.refl _)
 ·conv => whnf
  exact ret_weak (Weak.refl _)
theorem goes_spec (h : T.has 285 c_285) (h4 : T.has 284 c_284) (h8 : T.has 288 c_288) (c : UInt8) : Pure T.L 285 [.int .u8 c.toNat] (.bool (inA c alnumL)) := by
 refine Pure.run (low_u8 c) (.bool _) (acallsG h (by simp [c_285]) ?_)
 rw [alnum_eq]
 conv => whnf
 refine (begins_spec h4 c).to ?_
 cases h1 : inA c smallL
 ·conv => whnf
  refine (digit_spec h8 c).to ?_
  conv => whnf
  exact ret_weak (Weak.refl _)
 ·conv => whnf
  exact ret_weak (Weak.refl _)
theorem nl_spec (h : T.has 283 c_283) (c : UInt8) : Pure T.L 283 [.int .u8 c.toNat] (.bool (!inA c [10])) := by
 refine Pure.run (low_u8 c) (.bool _) (acallsG h (by simp [c_283]) ?_)
 conv => whnf
 refine ⟨_, rfl, ?_⟩
 rw [show ((c.toNat : Int) != 10) = !inA c [10] from beq_iff_eq.1 (u8_all (p := fun c => ((c.toNat : Int) != 10) == !inA c [10]) (by kernel_rfl) c)]
 exact Weak.refl _
theorem pword_spec (h : T.has 286 c_286) (s : Bytes) : Pure T.L 286 [.str s] (.bool (wordA s)) := by
 refine Pure.run (fun x hx => by simp only [List.mem_singleton] at hx; subst hx; exact .str _) (.bool _) (acallsG h (by simp [c_286]) ?_)
 have yes : ∀ w ∈ wordsL, (s == w) = true → wordA s = true := fun w hw he => by
  unfold wordA
  exact List.any_eq_true.2 ⟨w, hw, by rw [beq_iff_eq] at he ⊢; exact he.symm⟩
 have no : (∀ w ∈ wordsL, (s == w) = false) → wordA s = false := fun h => by
  unfold wordA
  rw [List.any_eq_false]
  intro w hw he
  have := h w hw
  rw [beq_iff_eq] at he
  rw [he] at this; simp at this
 conv => whnf
 cases h0 : (s == ([117, 115, 101] : Bytes))
 rotate_left
 ·conv => whnf
  rw [yes _ (by simp [wordsL]) h0]
  exact ret_weak (Weak.refl _)
 conv => whnf
 cases h1 : (s == ([116, 121, 112, 101] : Bytes))
 rotate_left
 ·conv => whnf
  rw [yes _ (by simp [wordsL]) h1]
  exact ret_weak (Weak.refl _)
 conv => whnf
 cases h2 : (s == ([108, 101, 116] : Bytes))
 rotate_left
 ·conv => whnf
  rw [yes _ (by simp [wordsL]) h2]
  exact ret_weak (Weak.refl _)
 conv => whnf
 cases h3 : (s == ([105, 110] : Bytes))
 rotate_left
 ·conv => whnf
  rw [yes _ (by simp [wordsL]) h3]
  exact ret_weak (Weak.refl _)
 conv => whnf
 cases h4 : (s == ([105, 102] : Bytes))
 rotate_left
 ·conv => whnf
  rw [yes _ (by simp [wordsL]) h4]
  exact ret_weak (Weak.refl _)
 conv => whnf
 cases h5 : (s == ([116, 104, 101, 110] : Bytes))
 rotate_left
 ·conv => whnf
  rw [yes _ (by simp [wordsL]) h5]
  exact ret_weak (Weak.refl _)
 conv => whnf
 cases h6 : (s == ([101, 108, 115, 101] : Bytes))
 rotate_left
 ·conv => whnf
  rw [yes _ (by simp [wordsL]) h6]
  exact ret_weak (Weak.refl _)
 conv => whnf
 cases h7 : (s == ([102, 117, 110] : Bytes))
 rotate_left
 ·conv => whnf
  rw [yes _ (by simp [wordsL]) h7]
  exact ret_weak (Weak.refl _)
 conv => whnf
 cases h8 : (s == ([116, 114, 117, 101] : Bytes))
 rotate_left
 ·conv => whnf
  rw [yes _ (by simp [wordsL]) h8]
  exact ret_weak (Weak.refl _)
 conv => whnf
 cases h9 : (s == ([102, 97, 108, 115, 101] : Bytes))
 rotate_left
 ·conv => whnf
  rw [yes _ (by simp [wordsL]) h9]
  exact ret_weak (Weak.refl _)
 conv => whnf
 cases h10 : (s == ([105, 110, 116] : Bytes))
 rotate_left
 ·conv => whnf
  rw [yes _ (by simp [wordsL]) h10]
  exact ret_weak (Weak.refl _)
 conv => whnf
 cases h11 : (s == ([98, 111, 111, 108] : Bytes))
 rotate_left
 ·conv => whnf
  rw [yes _ (by simp [wordsL]) h11]
  exact ret_weak (Weak.refl _)
 conv => whnf
 cases h12 : (s == ([116, 101, 120, 116] : Bytes))
 rotate_left
 ·conv => whnf
  rw [yes _ (by simp [wordsL]) h12]
  exact ret_weak (Weak.refl _)
 conv => whnf
 rw [no (by intro w hw; simp only [wordsL, List.mem_cons, List.not_mem_nil, or_false] at hw; rcases hw with rfl | rfl | rfl | rfl | rfl | rfl | rfl | rfl | rfl | rfl | rfl | rfl | rfl <;> assumption)]
 exact ret_weak (Weak.refl _)
theorem prefix5_spec (h : T.has 305 c_305) (s w : Bytes) : Pure T.L 305 [.str s, .str w] (.bool (decide (w.length ≤ s.length) && s.take w.length == w)) := by
 refine Pure.run (fun x hx => by simp only [List.mem_cons, List.not_mem_nil, or_false] at hx; rcases hx with rfl | rfl <;> constructor) (.bool _) (acallsG h (by simp [c_305]) ?_)
 conv => whnf
 rcases Nat.lt_or_ge s.length w.length with hl | hl
 ·rw [show decide ((s.length : Int) ≥ (w.length : Int)) = false from by simp; omega]
  conv => whnf
  rw [show decide (w.length ≤ s.length) = false from by simp; omega]
  exact ret_weak (Weak.refl _)
 ·rw [show decide ((s.length : Int) ≥ (w.length : Int)) = true from by simp; omega]
  conv => whnf
  refine ⟨Nat.zero_le _, hl, ?_⟩
  conv => whnf
  rw [show decide (w.length ≤ s.length) = true from by simp; omega]
  exact ret_weak (Weak.refl _)
theorem prefix_spec (h : T.has 291 c_291) (h5 : T.has 305 c_305) (s w : Bytes) : Pure T.L 291 [.str s, .str w] (.bool (decide (w.length ≤ s.length) && s.take w.length == w)) := by
 refine Pure.run (fun x hx => by simp only [List.mem_cons, List.not_mem_nil, or_false] at hx; rcases hx with rfl | rfl <;> constructor) (.bool _) (acallsG h (by simp [c_291]) ?_)
 conv => whnf
 refine (prefix5_spec h5 s w).to ?_
 conv => whnf
 exact ret_weak (Weak.refl _)
end Go.Ag
/- Package lex: the scanner's methods. -/
namespace Go.Ag
open Go
variable {T : Tab} {L : Lnk}
structure SC where
 src : Bytes
 at_ : Nat
 toks : List TokA
 diags : List DiagA
structure SC.ok (s : SC) : Prop where
 src : s.src.length ≤ 2 ^ 31
 at_ : s.at_ ≤ s.src.length
 toks : s.toks.length ≤ s.at_
 diags : s.diags.length ≤ s.at_
def tav (l : List TokA) (id : Nat) : AVal := .lst (l.map TokA.av) (dtok l.length id)
def dav (l : List DiagA) (id : Nat) : AVal := .lst (l.map DiagA.av) (dtok l.length id)
def sobj (s : SC) : AObj := .cells [.str s.src, .int .i64 s.at_, tav s.toks 0, dav s.diags 1] 299
def sheap (s : SC) : Heap := [dobj s.toks.length 282, dobj s.diags.length 333, sobj s]
theorem low_sheap (s : SC) : ∀ o ∈ sheap s, LowO 3 o := fun o ho => by
 simp only [sheap, List.mem_cons, List.not_mem_nil, or_false] at ho
 rcases ho with rfl | rfl | rfl
 ·exact dobj_low _ _ _
 ·exact dobj_low _ _ _
 ·exact lowC ⟨.str _, .int _ _, low_toks _ _ _ (dtok_low (by decide)), low_diags _ _ _ (dtok_low (by decide)), trivial⟩
def SK (L : Lnk) (f : Nat) (args : List AVal) (s : SC) (y : AVal) (s' : SC) : Prop := CallK L f (.ptr 2 0 :: args) (sheap s) y (sheap s')
theorem WeakO.list {K H : Heap} (h : K = H) : ∀ (i : Nat) (o o' : AObj), K[i]? = some o → H[i]? = some o' → WeakO L o o' := fun i o o' h1 h2 => by
 subst h; rw [h1] at h2; cases h2; exact WeakO.refl o
theorem SK.of {f : Nat} {args : List AVal} {s s' : SC} {y : AVal} (hy : Low 3 y)
  (h : ACalls L f (.ptr 2 0 :: args) (sheap s) fun r H' => ∃ x J, r = .ret x ∧ Weak L x y ∧ H' = sheap s' ++ J) : SK L f args s y s' :=
 CallK.of 0 rfl hy (low_sheap s') (by
  rw [List.replicate_zero, List.append_nil]
  exact h.mono fun r H' ⟨x, J, e1, e2, e3⟩ => ⟨x, sheap s', J, e1, e2, e3, rfl, WeakO.list rfl⟩)
theorem SK.to {f : Nat} {args : List AVal} {s s' : SC} {y : AVal} (h : SK L f args s y s') (hargs : ∀ x ∈ args, Low 3 x) (hy : Low 3 y) {H : Heap} {K KP : AVal → Heap → Prop} (J : Heap) (hH : H = sheap s ++ J) (hk : K y (sheap s' ++ J)) :
  ACalls L f (.ptr 2 0 :: args) H (contR K KP) := by
 subst hH
 exact (CallK.at h rfl (fun x hx => by
  rcases List.mem_cons.1 hx with rfl | hx
  ·exact .ptr _ _ (show 2 < 3 by decide)
  ·exact hargs x hx) (low_sheap s) hy (low_sheap s') J).mono fun r H' ⟨e1, e2⟩ => by subst e1 e2; exact hk
theorem app_tok {s : SC} (hs : s.ok) (t : TokA) {y : AVal} (hy : y = t.av) {tk0 : Tok} {H : Heap} {K : AVal → Heap → Prop} (h0 : H[0]? = some (dobj s.toks.length 282))
  (h : K (tav (s.toks ++ [t]) 0) (H.set 0 (dobj (s.toks ++ [t]).length 282))) : appK 3 32 282 (.lst (s.toks.map TokA.av) (dtok s.toks.length 0)) (.lst [y] tk0) H K := by
 have hl := hs.toks
 have := hs.at_
 have := hs.src
 have e1 : s.toks.length = (s.toks.map TokA.av).length := by simp
 have := app_slot (xs := s.toks.map TokA.av) (ys := [y]) (k := 3) (bytes := 32) (t := 282) (id := 0) (tk0 := tk0) (H := H) (K := K) (sized_toks _) (sized_one (by rw [hy]; rfl)) (by simp; omega) (by simp; omega) (by simp) (by rw [← e1]; exact h0) (by
  rw [hy]
  unfold tav at h
  rw [List.map_append, List.length_append, e1] at h
  rw [List.length_append]
  exact h)
 rw [← e1] at this
 exact this
theorem app_dg {s : SC} (hs : s.ok) (t : DiagA) {y : AVal} (hy : y = t.av) {tk0 : Tok} {H : Heap} {K : AVal → Heap → Prop} (h0 : H[1]? = some (dobj s.diags.length 333))
  (h : K (dav (s.diags ++ [t]) 1) (H.set 1 (dobj (s.diags ++ [t]).length 333))) : appK 3 32 333 (.lst (s.diags.map DiagA.av) (dtok s.diags.length 1)) (.lst [y] tk0) H K := by
 have hl := hs.diags
 have := hs.at_
 have := hs.src
 have e1 : s.diags.length = (s.diags.map DiagA.av).length := by simp
 have := app_slot (xs := s.diags.map DiagA.av) (ys := [y]) (k := 3) (bytes := 32) (t := 333) (id := 1) (tk0 := tk0) (H := H) (K := K) (sized_diags _) (sized_one (by rw [hy]; rfl)) (by simp; omega) (by simp; omega) (by simp) (by rw [← e1]; exact h0) (by
  rw [hy]
  unfold dav at h
  rw [List.map_append, List.length_append, e1] at h
  rw [List.length_append]
  exact h)
 rw [← e1] at this
 exact this
theorem wrapN {n : Nat} {a b : Int} (h : a + b = n) (hn : n ≤ 2 ^ 60) : IntKind.i64.wrap (a + b) = (n : Int) := by rw [IntWalk.i64_in _ (by omega)]; exact h
theorem run_spec (h : T.has 282 c_282) {g : Nat} {p : UInt8 → Bool} (hp : ∀ c : UInt8, Pure T.L g [.int .u8 c.toNat] (.bool (p c))) (s : SC) (hs : s.src.length ≤ 2 ^ 31) (fr : Nat) (hf : fr ≤ s.src.length) :
  SK T.L 282 [.int .i64 fr, .fn (.func g) [] []] s (.int .i64 (spanA p s.src fr - fr : Nat)) s := by
 refine SK.of (.int _ _) (acallsG h (by simp [c_282]) ?_)
 conv => whnf
 intro I hI hG
 have key : ∀ (d k : Nat) (e : Env), s.src.length - (fr + k) = d → fr + k ≤ s.src.length → spanA p s.src fr = spanA p s.src (fr + k) →
   I (setL e [(0, .ptr 2 0), (1, .int .i64 fr), (2, .fn (.func g) [] []), (7, .int .i64 k)]) (sheap s) := by
  intro d
  induction d with
  | zero =>
   intro k e hd hk hv
   apply hI
   conv => whnf
   rw [wrapN (n := fr + k) (by omega) (by omega), lt_false (by omega)]
   conv => whnf
   rw [hv, span_end (by omega), Nat.add_sub_cancel_left]
   exact ⟨_, [], rfl, Weak.refl _, (List.append_nil _).symm⟩
  | succ d ih =>
   intro k e hd hk hv
   have hlt : fr + k < s.src.length := by omega
   apply hI
   conv => whnf
   rw [wrapN (n := fr + k) (by omega) (by omega), lt_true hlt]
   conv => whnf
   rw [wrapN (n := fr + k) (by omega) (by omega)]
   refine step_at hlt ?_
   conv => whnf
   refine (hp _).to ?_
   cases hc : p s.src[fr + k]
   ·conv => whnf
    rw [hv, span_no hlt hc, Nat.add_sub_cancel_left]
    exact ⟨_, [], rfl, Weak.refl _, (List.append_nil _).symm⟩
   ·conv => whnf
    refine inv_of [(0, .ptr 2 0), (1, .int .i64 fr), (2, .fn (.func g) [] []), (7, .int .i64 (k + 1 : Nat))] ⟨rfl, rfl, rfl, add1 (by omega), trivial⟩ (ih (k + 1) _ (by omega) (by omega) ?_)
    rw [hv, span_yes hlt hc]
    rfl
 exact inv_of [(0, .ptr 2 0), (1, .int .i64 fr), (2, .fn (.func g) [] []), (7, .int .i64 0)] ⟨rfl, rfl, rfl, rfl, trivial⟩ (key (s.src.length - fr) 0 _ rfl hf rfl)
def addS' (s : SC) (kind : Int) (n : Nat) : SC := { s with toks := s.toks ++ [⟨kind, s.at_, subA s.src s.at_ (s.at_ + n)⟩], at_ := s.at_ + n }
theorem padd_spec (h : T.has 287 c_287) (s : SC) (hs : s.ok) (kind : Int) (n : Nat) (hn : s.at_ + n ≤ s.src.length) : SK T.L 287 [.int .i64 kind, .int .i64 n] s (.tup []) (addS' s kind n) := by
 have := hs.src
 refine SK.of low_unit (acallsG h (by simp [c_287]) ?_)
 conv => whnf
 rw [wrapN (n := s.at_ + n) (by omega) (by omega)]
 refine ⟨Nat.le_add_right _ _, hn, ?_⟩
 conv => whnf
 refine app_tok hs ⟨kind, s.at_, subA s.src s.at_ (s.at_ + n)⟩ rfl rfl ?_
 conv => whnf
 rw [wrapN (n := s.at_ + n) (by omega) (by omega)]
 exact ⟨_, [], rfl, Weak.refl _, (List.append_nil _).symm⟩
def tellS (s : SC) (code : Int) : SC := { s with diags := s.diags ++ [⟨s.at_, code, []⟩] }
theorem ptell_spec (h : T.has 292 c_292) (s : SC) (hs : s.ok) (code : Int) : SK T.L 292 [.int .i64 code] s (.tup []) (tellS s code) := by
 refine SK.of low_unit (acallsG h (by simp [c_292]) ?_)
 conv => whnf
 refine app_dg hs ⟨s.at_, code, []⟩ rfl rfl ?_
 conv => whnf
 exact ⟨_, [], rfl, Weak.refl _, (List.append_nil _).symm⟩
end Go.Ag
/- Package lex: numbers, texts, the next token, Lex. -/
namespace Go.Ag
open Go
variable {T : Tab} {L : Lnk}
def cut2 (c : UInt8) (s : Bytes) : Bytes × Bytes × Bool := (s.takeWhile (· != c), (s.dropWhile (· != c)).drop 1, s.any (· == c))
structure LexLib (L : Lnk) : Prop where
 cut : ∀ (c : UInt8) (s : Bytes), s.length ≤ 2 ^ 31 → Pure L 22 [.str s, .str [c]] (.tup [.str (cut2 c s).1, .str (cut2 c s).2.1, .bool (cut2 c s).2.2])
 idx : ∀ c : UInt8, ∃ n : Int, decide (n ≥ 0) = inA c signsL ∧ Pure L 49 [.str signsL, .int .u8 c.toNat] (.int .i64 n)
structure LexFns (T : Tab) : Prop where
 h215 : T.has 215 c_215
 h246 : T.has 246 c_246
 h282 : T.has 282 c_282
 h283 : T.has 283 c_283
 h284 : T.has 284 c_284
 h285 : T.has 285 c_285
 h286 : T.has 286 c_286
 h287 : T.has 287 c_287
 h288 : T.has 288 c_288
 h289 : T.has 289 c_289
 h290 : T.has 290 c_290
 h291 : T.has 291 c_291
 h292 : T.has 292 c_292
 h305 : T.has 305 c_305
 lib : LexLib T.L
def stepS (s : SC) (c : UInt8) : SC := { s with at_ := (lexStep s.src s.at_ c).1, toks := s.toks ++ (lexStep s.src s.at_ c).2.1, diags := s.diags ++ (lexStep s.src s.at_ c).2.2 }
theorem low_spanArgs (a : Nat) (g : Nat) : ∀ x ∈ [AVal.int .i64 a, .fn (.func g) [] []], Low 3 x := fun x hx => by
 simp only [List.mem_cons, List.not_mem_nil, or_false] at hx
 rcases hx with rfl | rfl
 ·exact .int _ _
 ·exact .fn _ _ _ (fun x hx => by cases hx) (fun x hx => by cases hx)
theorem low2 {n : Nat} {x y : AVal} (hx : Low n x) (hy : Low n y) : ∀ z ∈ [x, y], Low n z := fun z hz => by
 simp only [List.mem_cons, List.not_mem_nil, or_false] at hz
 rcases hz with rfl | rfl <;> assumption
def numS (s : SC) : SC :=
 if 18 < whileA s.src s.at_ digitsL - s.at_ then { s with at_ := whileA s.src s.at_ digitsL, toks := s.toks ++ [⟨3, s.at_, [48]⟩], diags := s.diags ++ [⟨s.at_, 13, []⟩] }
 else { s with at_ := whileA s.src s.at_ digitsL, toks := s.toks ++ [⟨3, s.at_, subA s.src s.at_ (whileA s.src s.at_ digitsL)⟩] }
theorem number_specP (F : LexFns T) (s : SC) (hs : s.ok) (h1 : s.at_ < s.src.length) : SK T.L 289 [] s (.tup []) (numS s) := by
 have := hs.src
 refine SK.of low_unit (acallsG F.h289 (by simp [c_289]) ?_)
 conv => whnf
 refine (run_spec F.h282 (digit_spec F.h288) s hs.src s.at_ (by omega)).to (low_spanArgs _ _) (.int _ _) [] (List.append_nil _).symm ?_
 have hw : spanA (fun c => inA c digitsL) s.src s.at_ = whileA s.src s.at_ digitsL := rfl
 rw [hw]
 have hle := span_le (p := (inA · digitsL)) (src := s.src) (k := s.at_) (by omega)
 rw [show spanA (inA · digitsL) s.src s.at_ = whileA s.src s.at_ digitsL from rfl] at hle
 unfold numS
 generalize whileA s.src s.at_ digitsL = e at hle ⊢
 conv => whnf
 by_cases hn : 18 < e - s.at_
 ·rw [if_pos hn, show decide (((e - s.at_ : Nat) : Int) ≤ 18) = false from by simp; omega]
  conv => whnf
  refine (ptell_spec F.h292 s hs 13).to (low1 (.int _ _)) low_unit [] (List.append_nil _).symm ?_
  unfold tellS
  conv => whnf
  refine app_tok hs ⟨3, s.at_, [48]⟩ rfl rfl ?_
  conv => whnf
  dsimp only
  rw [wrapN (n := e) (by omega) (by omega)]
  exact ⟨_, [], rfl, Weak.refl _, (List.append_nil _).symm⟩
 ·rw [if_neg hn, show decide (((e - s.at_ : Nat) : Int) ≤ 18) = true from by simp; omega]
  conv => whnf
  refine (padd_spec F.h287 s hs 3 (e - s.at_) (by omega)).to (low2 (.int _ _) (.int _ _)) low_unit [] (List.append_nil _).symm ?_
  have e1 : s.at_ + (e - s.at_) = e := by omega
  unfold addS'
  rw [e1]
  conv => whnf
  exact ⟨_, [], rfl, Weak.refl _, (List.append_nil _).symm⟩
theorem text_lists : ∀ rest : Bytes, (rest.takeWhile (· != 10)).takeWhile (· != 34) = rest.takeWhile (fun c => !inA c [34, 10]) ∧
  (rest.takeWhile (· != 10)).any (· == 34) = (rest[(rest.takeWhile (fun c => !inA c [34, 10])).length]? == some 34) ∧
  ((rest.takeWhile (· != 10)).any (· == 34) = false → rest.takeWhile (· != 10) = rest.takeWhile (fun c => !inA c [34, 10]))
 | [] => ⟨rfl, rfl, fun _ => rfl⟩
 | c :: rest => by
  obtain ⟨i1, i2, i3⟩ := text_lists rest
  have hin : inA c [34, 10] = (c == 34 || c == 10) := by simp [inA, Bool.beq_comm]
  by_cases h10 : c = 10
  ·subst h10; exact ⟨by simp [List.takeWhile, inA], by simp [List.takeWhile, inA], fun _ => by simp [List.takeWhile, inA]⟩
  ·have e10 : (c != 10) = true := by simpa using h10
   rw [List.takeWhile_cons_of_pos (p := (· != 10)) e10]
   by_cases h34 : c = 34
   ·subst h34
    refine ⟨by simp [List.takeWhile, inA], by simp [List.takeWhile, inA], fun h => by simp at h⟩
   ·have e34 : (c != 34) = true := by simpa using h34
    have hq : (!inA c [34, 10]) = true := by rw [hin]; simp [h34, h10]
    rw [List.takeWhile_cons_of_pos (p := (· != 34)) e34, List.takeWhile_cons_of_pos (p := fun c => !inA c [34, 10]) hq, i1]
    refine ⟨rfl, ?_, fun h => ?_⟩
    ·rw [List.any_cons, show (c == 34) = false from by simpa using h34, Bool.false_or, i2, List.length_cons, List.getElem?_cons_succ]
    ·rw [List.any_cons, show (c == 34) = false from by simpa using h34, Bool.false_or] at h
     rw [i3 h]
def textS (s : SC) : SC :=
 if s.src[untilA s.src (s.at_ + 1) [34, 10]]? = some 34 then { s with at_ := untilA s.src (s.at_ + 1) [34, 10] + 1, toks := s.toks ++ [⟨4, s.at_, subA s.src (s.at_ + 1) (untilA s.src (s.at_ + 1) [34, 10])⟩] }
 else { s with at_ := untilA s.src (s.at_ + 1) [34, 10], diags := s.diags ++ [⟨s.at_, 1, []⟩] }
theorem text_specP (F : LexFns T) (s : SC) (hs : s.ok) (h1 : s.at_ < s.src.length) : SK T.L 290 [] s (.tup []) (textS s) := by
 have := hs.src
 refine SK.of low_unit (acallsG F.h290 (by simp [c_290]) ?_)
 obtain ⟨rest, hrest⟩ : ∃ rest, s.src.drop (s.at_ + 1) = rest := ⟨_, rfl⟩
 obtain ⟨t1, t2, t3⟩ := text_lists rest
 have hl : rest.length = s.src.length - (s.at_ + 1) := by rw [← hrest]; simp
 obtain ⟨w, hw⟩ : ∃ w, rest.takeWhile (fun c => !inA c [34, 10]) = w := ⟨_, rfl⟩
 rw [hw] at t1 t2 t3
 have hu : untilA s.src (s.at_ + 1) [34, 10] = s.at_ + 1 + w.length := by unfold untilA spanA; rw [hrest, hw]
 have hwl : w.length ≤ rest.length := by rw [← hw]; exact (List.takeWhile_sublist _).length_le
 have hline : (rest.takeWhile (· != 10)).length ≤ rest.length := (List.takeWhile_sublist _).length_le
 have hat : s.src[s.at_ + 1 + w.length]? = rest[w.length]? := by rw [← hrest, List.getElem?_drop]
 have hsub : subA s.src (s.at_ + 1) (s.at_ + 1 + w.length) = w := by
  unfold subA
  rw [List.drop_take, hrest, Nat.add_sub_cancel_left]
  rw [← hw]
  exact List.prefix_iff_eq_take.1 (List.takeWhile_prefix _) |>.symm
 unfold textS
 rw [hu, hat, hsub]
 conv => whnf
 rw [wrapN (n := s.at_ + 1) (by omega) (by omega)]
 refine ⟨h1, Nat.le_refl _, ?_⟩
 rw [List.take_length, show ((s.at_ + 1 : Nat) : Int).toNat = s.at_ + 1 from rfl, hrest]
 conv => whnf
 refine (F.lib.cut 10 rest (by omega)).to ?_
 unfold cut2
 conv => whnf
 refine (F.lib.cut 34 (rest.takeWhile (· != 10)) (by omega)).to ?_
 unfold cut2
 rw [t1]
 conv => whnf
 cases hc : (rest.takeWhile (· != 10)).any (· == 34)
 ·rw [hc] at t2
  rw [if_neg (by intro e; rw [e] at t2; simp at t2)]
  conv => whnf
  refine (ptell_spec F.h292 s hs 1).to (low1 (.int _ _)) low_unit [] (List.append_nil _).symm ?_
  unfold tellS
  conv => whnf
  dsimp only
  rw [t3 hc, wrapN (a := 1) (b := (w.length : Int)) (n := 1 + w.length) (by omega) (by omega), wrapN (n := s.at_ + 1 + w.length) (by omega) (by omega)]
  exact ⟨_, [], rfl, Weak.refl _, (List.append_nil _).symm⟩
 ·rw [hc] at t2
  rw [if_pos (by simpa using t2.symm)]
  conv => whnf
  refine app_tok hs ⟨4, s.at_, w⟩ rfl rfl ?_
  conv => whnf
  rw [wrapN (a := (w.length : Int)) (b := 2) (n := w.length + 2) (by omega) (by omega), wrapN (n := s.at_ + 1 + w.length + 1) (by omega) (by omega)]
  exact ⟨_, [], rfl, Weak.refl _, (List.append_nil _).symm⟩
end Go.Ag
/- Package lex: the next token, Lex. -/
namespace Go.Ag
open Go
variable {T : Tab} {L : Lnk}
theorem ws_eq (c : UInt8) : inA c wsL = (c == 32 || (c == 9 || (c == 10 || c == 13))) := beq_iff_eq.1 (u8_all (p := fun c => inA c wsL == (c == 32 || (c == 9 || (c == 10 || c == 13)))) (by kernel_rfl) c)
theorem next_specP (F : LexFns T) (s : SC) (hs : s.ok) (h1 : s.at_ < s.src.length) : SK T.L 246 [] s (.tup []) (stepS s s.src[s.at_]) := by
 have := hs.src
 refine SK.of low_unit (acallsG F.h246 (by simp [c_246]) ?_)
 conv => whnf
 refine step_at h1 ?_
 obtain ⟨c, hc⟩ : ∃ c, s.src[s.at_] = c := ⟨_, rfl⟩
 rw [hc]
 obtain ⟨R, hR⟩ : ∃ R, lexStep s.src s.at_ c = R := ⟨_, rfl⟩
 rw [show stepS s c = { s with at_ := R.1, toks := s.toks ++ R.2.1, diags := s.diags ++ R.2.2 } from by unfold stepS; rw [hR]]
 rw [lexStep] at hR
 have ws := ws_eq c
 conv => whnf
 rw [show ((c.toNat : Int) == 32) = (c == 32) from u8_beq c 32]
 cases h32 : (c == 32)
 ·conv => whnf
  rw [show ((c.toNat : Int) == 9) = (c == 9) from u8_beq c 9]
  cases h9 : (c == 9)
  ·conv => whnf
   rw [show ((c.toNat : Int) == 10) = (c == 10) from u8_beq c 10]
   cases h10 : (c == 10)
   ·conv => whnf
    rw [show ((c.toNat : Int) == 13) = (c == 13) from u8_beq c 13]
    cases h13 : (c == 13)
    ·rw [h32, h9, h10, h13, Bool.false_or, Bool.false_or, Bool.false_or] at ws
     rw [if_neg (by simp [ws])] at hR
     clear ws
     conv => whnf
     rw [show ((c.toNat : Int) == 35) = (c == 35) from u8_beq c 35]
     cases h35 : (c == 35)
     ·rw [if_neg (by simp [h35])] at hR
      conv => whnf
      refine (begins_spec F.h284 c).to ?_
      cases hb : inA c smallL
      ·rw [if_neg (by simp [hb])] at hR
       conv => whnf
       refine (digit_spec F.h288 c).to ?_
       cases hd : inA c digitsL
       ·rw [if_neg (by simp [hd])] at hR
        conv => whnf
        rw [show ((c.toNat : Int) == 34) = (c == 34) from u8_beq c 34]
        cases h34 : (c == 34)
        ·rw [if_neg (by simp [h34])] at hR
         conv => whnf
         refine ⟨Nat.le_of_lt h1, Nat.le_refl _, ?_⟩
         rw [List.take_length, show ((s.at_ : Nat) : Int).toNat = s.at_ from rfl]
         conv => whnf
         refine (prefix_spec F.h291 F.h305 _ _).to ?_
         have hpre : (decide (([45, 62] : Bytes).length ≤ (s.src.drop s.at_).length) && (s.src.drop s.at_).take ([45, 62] : Bytes).length == ([45, 62] : Bytes)) = decide ((c == 45) = true ∧ s.src[s.at_ + 1]? = some 62) := by
          rw [Bool.eq_iff_iff]
          rw [List.drop_eq_getElem_cons h1, hc]
          rw [show s.src[s.at_ + 1]? = (s.src.drop (s.at_ + 1))[0]? from by rw [List.getElem?_drop]]
          cases hq : s.src.drop (s.at_ + 1) with
          | nil => simp
          | cons x xs => simp
         rw [hpre]
         by_cases h45 : (c == 45) = true ∧ s.src[s.at_ + 1]? = some 62
         ·rw [if_pos h45] at hR
          rw [decide_eq_true h45]
          subst hR
          conv => whnf
          have hx : s.at_ + 2 ≤ s.src.length := by
           have := (List.getElem?_eq_some_iff.1 h45.2).1
           omega
          refine (padd_spec F.h287 s hs 5 2 hx).to (low2 (.int _ _) (.int _ _)) low_unit [] (List.append_nil _).symm ?_
          unfold addS'
          conv => whnf
          have hsub : subA s.src s.at_ (s.at_ + 2) = [45, 62] := by
           have e1 := (List.getElem?_eq_some_iff.1 h45.2)
           unfold subA
           rw [List.drop_take, Nat.add_sub_cancel_left, List.drop_eq_getElem_cons h1, hc, List.drop_eq_getElem_cons e1.1, e1.2, beq_iff_eq.1 h45.1]
           rfl
          dsimp only
          rw [hsub, List.append_nil s.diags]
          exact ⟨_, [], rfl, Weak.refl _, (List.append_nil _).symm⟩
         ·rw [if_neg h45] at hR
          rw [decide_eq_false h45]
          conv => whnf
          obtain ⟨n, hn, hidx⟩ := F.lib.idx c
          refine hidx.to ?_
          conv => whnf
          rw [show (decide (n ≥ 0)) = inA c signsL from hn]
          cases hs2 : inA c signsL
          ·rw [if_neg (by simp [hs2])] at hR
           subst hR
           conv => whnf
           refine (ptell_spec F.h292 s hs 1).to (low1 (.int _ _)) low_unit [] (List.append_nil _).symm ?_
           unfold tellS
           conv => whnf
           dsimp only
           rw [wrapN (n := s.at_ + 1) (by omega) (by omega), List.append_nil s.toks]
           exact ⟨_, [], rfl, Weak.refl _, (List.append_nil _).symm⟩
          ·rw [if_pos hs2] at hR
           subst hR
           conv => whnf
           refine (padd_spec F.h287 s hs 5 1 h1).to (low2 (.int _ _) (.int _ _)) low_unit [] (List.append_nil _).symm ?_
           unfold addS'
           conv => whnf
           dsimp only
           rw [List.append_nil s.diags]
           exact ⟨_, [], rfl, Weak.refl _, (List.append_nil _).symm⟩
        ·rw [if_pos h34] at hR
         conv => whnf
         refine (text_specP F s hs h1).to (fun x hx => by cases hx) low_unit [] (List.append_nil _).symm ?_
         unfold textS
         conv => whnf
         have he : ∀ b : Prop, [Decidable b] → True := fun _ _ => trivial
         by_cases hq : s.src[untilA s.src (s.at_ + 1) [34, 10]]? = some 34
         ·rw [if_pos hq] at hR ⊢
          subst hR
          dsimp only
          rw [List.append_nil s.diags]
          exact ⟨_, [], rfl, Weak.refl _, (List.append_nil _).symm⟩
         ·rw [if_neg hq] at hR ⊢
          subst hR
          dsimp only
          rw [List.append_nil s.toks]
          exact ⟨_, [], rfl, Weak.refl _, (List.append_nil _).symm⟩
       ·rw [if_pos hd] at hR
        conv => whnf
        refine (number_specP F s hs h1).to (fun x hx => by cases hx) low_unit [] (List.append_nil _).symm ?_
        unfold numS
        conv => whnf
        by_cases hq : 18 < whileA s.src s.at_ digitsL - s.at_
        ·rw [if_pos hq] at hR ⊢
         subst hR
         exact ⟨_, [], rfl, Weak.refl _, (List.append_nil _).symm⟩
        ·rw [if_neg hq] at hR ⊢
         subst hR
         dsimp only
         rw [List.append_nil s.diags]
         exact ⟨_, [], rfl, Weak.refl _, (List.append_nil _).symm⟩
      ·rw [if_pos hb] at hR
       conv => whnf
       refine (run_spec F.h282 (goes_spec F.h285 F.h284 F.h288) s hs.src s.at_ (by omega)).to (low_spanArgs _ _) (.int _ _) [] (List.append_nil _).symm ?_
       rw [show spanA (fun c => inA c alnumL) s.src s.at_ = whileA s.src s.at_ alnumL from rfl]
       have hle := span_le (p := (inA · alnumL)) (src := s.src) (k := s.at_) (by omega)
       rw [show spanA (inA · alnumL) s.src s.at_ = whileA s.src s.at_ alnumL from rfl] at hle
       generalize whileA s.src s.at_ alnumL = e at hle hR ⊢
       have e1 : s.at_ + (e - s.at_) = e := by omega
       conv => whnf
       rw [wrapN (n := e) (by omega) (by omega)]
       refine ⟨hle.1, hle.2, ?_⟩
       conv => whnf
       refine (pword_spec F.h286 _).to ?_
       rw [show (s.src.take ((e : Nat) : Int).toNat).drop ((s.at_ : Nat) : Int).toNat = subA s.src s.at_ e from rfl]
       cases hw : wordA (subA s.src s.at_ e)
       ·rw [if_neg (by simp [hw])] at hR
        subst hR
        conv => whnf
        refine (padd_spec F.h287 s hs 1 (e - s.at_) (by omega)).to (low2 (.int _ _) (.int _ _)) low_unit [] (List.append_nil _).symm ?_
        unfold addS'
        rw [e1]
        conv => whnf
        dsimp only
        rw [List.append_nil s.diags]
        exact ⟨_, [], rfl, Weak.refl _, (List.append_nil _).symm⟩
       ·rw [if_pos hw] at hR
        subst hR
        conv => whnf
        refine (padd_spec F.h287 s hs 2 (e - s.at_) (by omega)).to (low2 (.int _ _) (.int _ _)) low_unit [] (List.append_nil _).symm ?_
        unfold addS'
        rw [e1]
        conv => whnf
        dsimp only
        rw [List.append_nil s.diags]
        exact ⟨_, [], rfl, Weak.refl _, (List.append_nil _).symm⟩
     ·rw [if_pos h35] at hR
      subst hR
      conv => whnf
      refine (run_spec F.h282 (nl_spec F.h283) s hs.src s.at_ (by omega)).to (low_spanArgs _ _) (.int _ _) [] (List.append_nil _).symm ?_
      rw [show spanA (fun c => !inA c [10]) s.src s.at_ = untilA s.src s.at_ [10] from rfl]
      have hle := span_le (p := fun c => !inA c [10]) (src := s.src) (k := s.at_) (by omega)
      rw [show spanA (fun c => !inA c [10]) s.src s.at_ = untilA s.src s.at_ [10] from rfl] at hle
      generalize untilA s.src s.at_ [10] = e at hle ⊢
      conv => whnf
      refine ⟨⟨rfl, trivial⟩, ?_⟩
      conv => whnf
      dsimp only
      rw [wrapN (n := e) (by omega) (by omega), List.append_nil s.toks, List.append_nil s.diags]
      exact ⟨_, [], rfl, Weak.refl _, (List.append_nil _).symm⟩
    ·rw [h32, h9, h10, h13, Bool.false_or, Bool.false_or, Bool.false_or] at ws
     rw [if_pos ws] at hR
     subst hR
     conv => whnf
     dsimp only
     rw [wrapN (n := s.at_ + 1) (by omega) (by omega), List.append_nil s.toks, List.append_nil s.diags]
     exact ⟨_, [], rfl, Weak.refl _, (List.append_nil _).symm⟩
   ·rw [h32, h9, h10, Bool.false_or, Bool.false_or, Bool.true_or] at ws
    rw [if_pos ws] at hR
    subst hR
    conv => whnf
    dsimp only
    rw [wrapN (n := s.at_ + 1) (by omega) (by omega), List.append_nil s.toks, List.append_nil s.diags]
    exact ⟨_, [], rfl, Weak.refl _, (List.append_nil _).symm⟩
  ·rw [h32, h9, Bool.false_or, Bool.true_or] at ws
   rw [if_pos ws] at hR
   subst hR
   conv => whnf
   dsimp only
   rw [wrapN (n := s.at_ + 1) (by omega) (by omega), List.append_nil s.toks, List.append_nil s.diags]
   exact ⟨_, [], rfl, Weak.refl _, (List.append_nil _).symm⟩
 ·rw [h32, Bool.true_or] at ws
  rw [if_pos ws] at hR
  subst hR
  conv => whnf
  dsimp only
  rw [wrapN (n := s.at_ + 1) (by omega) (by omega), List.append_nil s.toks, List.append_nil s.diags]
  exact ⟨_, [], rfl, Weak.refl _, (List.append_nil _).symm⟩
end Go.Ag
/- Package cupelref05: what the reader reads of an expression, as plain functions. -/
namespace Go.Ag
open Go
def kFun : Bytes := [102, 117, 110]
def kLet : Bytes := [108, 101, 116]
def kIf : Bytes := [105, 102]
def kEq : Bytes := [61]
def kIn : Bytes := [105, 110]
def kThen : Bytes := [116, 104, 101, 110]
def kElse : Bytes := [101, 108, 115, 101]
def kDot : Bytes := [46]
def kTrue : Bytes := [116, 114, 117, 101]
def kFalse : Bytes := [102, 97, 108, 115, 101]
def kSemi : Bytes := [59]
def zeroE : EA := .mk 0 0 [] 0 [] [] []
def deepR (d : Nat) (s : RS) : RS := if 64 < d then giveR s 3 else s
mutual
def exprR : Nat → Nat → RS → EA × RS
 | 0, _, s => (zeroE, s)
 | n + 1, d, s =>
  if (deepR d s).bad then (zeroE, deepR d s)
  else if isR (deepR d s) kFun then funR n d (deepR d s).tok.at_ (nameR (takeR (takeR (deepR d s) kFun) kLp))
  else if isR (deepR d s) kLet then letR n d (deepR d s).tok.at_ (nameR (takeR (deepR d s) kLet))
  else if isR (deepR d s) kIf then ifR n d (deepR d s).tok.at_ (takeR (deepR d s) kIf)
  else postR n d (basicR n d (deepR d s)).1 (basicR n d (deepR d s)).2
def funR : Nat → Nat → Int → TokA × RS → EA × RS
 | 0, _, _, p => (zeroE, p.2)
 | n + 1, d, at_, p =>
  if (takeR p.2 kColon).bad then (zeroE, takeR p.2 kColon)
  else if (takeR (typeR n (d + 1) (takeR p.2 kColon)).2 kRp).bad then (zeroE, takeR (typeR n (d + 1) (takeR p.2 kColon)).2 kRp)
  else (.mk 8 at_ p.1.text 0 [] [(exprR n (d + 1) (takeR (typeR n (d + 1) (takeR p.2 kColon)).2 kRp)).1] [(typeR n (d + 1) (takeR p.2 kColon)).1],
   (exprR n (d + 1) (takeR (typeR n (d + 1) (takeR p.2 kColon)).2 kRp)).2)
def letR : Nat → Nat → Int → TokA × RS → EA × RS
 | 0, _, _, p => (zeroE, p.2)
 | n + 1, d, at_, p =>
  (.mk 9 at_ p.1.text 0 [] [(exprR n (d + 1) (takeR p.2 kEq)).1, (exprR n (d + 1) (takeR (exprR n (d + 1) (takeR p.2 kEq)).2 kIn)).1] [],
   (exprR n (d + 1) (takeR (exprR n (d + 1) (takeR p.2 kEq)).2 kIn)).2)
def ifR : Nat → Nat → Int → RS → EA × RS
 | 0, _, _, s => (zeroE, s)
 | n + 1, d, at_, s => elseR n d at_ (exprR n (d + 1) s).1 (exprR n (d + 1) (takeR (exprR n (d + 1) s).2 kThen))
def elseR : Nat → Nat → Int → EA → EA × RS → EA × RS
 | 0, _, _, _, q => (zeroE, q.2)
 | n + 1, d, at_, a, q => (.mk 10 at_ [] 0 [] [a, q.1, (exprR n (d + 1) (takeR q.2 kElse)).1] [], (exprR n (d + 1) (takeR q.2 kElse)).2)
def postR : Nat → Nat → EA → RS → EA × RS
 | 0, _, x, s => (x, s)
 | n + 1, d, x, s =>
  if isR s kLp then postR n d (.mk 7 s.tok.at_ [] 0 [] [x, (exprR n (d + 1) (takeR s kLp)).1] []) (takeR (exprR n (d + 1) (takeR s kLp)).2 kRp)
  else if isR s kDot then postR n d (.mk 6 (nameR (takeR s kDot)).1.at_ (nameR (takeR s kDot)).1.text 0 [] [x] []) (nameR (takeR s kDot)).2
  else (x, s)
def basicR : Nat → Nat → RS → EA × RS
 | 0, _, s => (zeroE, s)
 | n + 1, d, s =>
  if s.bad then (zeroE, s)
  else if s.tok.kind = 1 then (.mk 4 s.tok.at_ s.tok.text 0 [] [] [], { s with i := s.i + 1 })
  else if s.tok.kind = 3 then (.mk 1 s.tok.at_ [] (numberR s.tok.text) [] [] [], { s with i := s.i + 1 })
  else if s.tok.kind = 4 then (.mk 2 s.tok.at_ s.tok.text 0 [] [] [], { s with i := s.i + 1 })
  else if isR s kTrue then (.mk 3 s.tok.at_ [] 1 [] [] [], takeR s kTrue)
  else if isR s kFalse then (.mk 3 s.tok.at_ [] 0 [] [] [], takeR s kFalse)
  else if isR s kLb then efieldsR n d s.tok.at_ [] [] (takeR s kLb)
  else if (takeR s kLp).bad then (zeroE, takeR s kLp)
  else asR n d s.tok.at_ (exprR n (d + 1) (takeR s kLp))
def asR : Nat → Nat → Int → EA × RS → EA × RS
 | 0, _, _, q => (zeroE, q.2)
 | n + 1, d, at_, q =>
  if isR q.2 kColon then (.mk 11 at_ [] 0 [] [q.1] [(typeR n (d + 1) (takeR q.2 kColon)).1], takeR (typeR n (d + 1) (takeR q.2 kColon)).2 kRp)
  else (q.1, takeR q.2 kRp)
def efieldsR : Nat → Nat → Int → List Bytes → List EA → RS → EA × RS
 | 0, _, _, _, _, s => (zeroE, s)
 | n + 1, d, at_, names, l, s =>
  if !s.bad && !isR s kRb then
   if (takeR (nameR s).2 kEq).bad then (zeroE, takeR (nameR s).2 kEq)
   else if hasR names (nameR s).1.text then
    efieldsR n d at_ names l (commaR (exprR n (d + 1) (twiceR (takeR (nameR s).2 kEq) (nameR s).1)).2)
   else
    efieldsR n d at_ (names ++ [(nameR s).1.text]) (l ++ [(exprR n (d + 1) (takeR (nameR s).2 kEq)).1]) (commaR (exprR n (d + 1) (takeR (nameR s).2 kEq)).2)
  else (.mk 5 at_ [] 0 names l [], takeR s kRb)
end
theorem deep_le {d : Nat} {s : RS} (hs : s.ok) : s.le (deepR d s) := by
 unfold deepR
 split
 ·exact give_le hs 3
 ·exact RS.le.refl hs
structure LeEx (n : Nat) : Prop where
 expr : ∀ (d : Nat) (s : RS), s.ok → s.le (exprR n d s).2
 fn : ∀ (d : Nat) (a : Int) (p : TokA × RS), p.2.ok → p.2.le (funR n d a p).2
 lt : ∀ (d : Nat) (a : Int) (p : TokA × RS), p.2.ok → p.2.le (letR n d a p).2
 ie : ∀ (d : Nat) (a : Int) (s : RS), s.ok → s.le (ifR n d a s).2
 el : ∀ (d : Nat) (a : Int) (x : EA) (q : EA × RS), q.2.ok → q.2.le (elseR n d a x q).2
 post : ∀ (d : Nat) (x : EA) (s : RS), s.ok → s.le (postR n d x s).2
 basic : ∀ (d : Nat) (s : RS), s.ok → s.le (basicR n d s).2
 as_ : ∀ (d : Nat) (a : Int) (q : EA × RS), q.2.ok → q.2.le (asR n d a q).2
 fields : ∀ (d : Nat) (a : Int) (names : List Bytes) (l : List EA) (s : RS), s.ok → s.le (efieldsR n d a names l s).2
theorem le_exprs : ∀ n : Nat, LeEx n := by
 intro n
 induction n with
 | zero => exact ⟨fun d s h => by unfold exprR; exact RS.le.refl h, fun d a p h => by unfold funR; exact RS.le.refl h, fun d a p h => by unfold letR; exact RS.le.refl h, fun d a s h => by unfold ifR; exact RS.le.refl h, fun d a x q h => by unfold elseR; exact RS.le.refl h, fun d x s h => by unfold postR; exact RS.le.refl h, fun d s h => by unfold basicR; exact RS.le.refl h, fun d a q h => by unfold asR; exact RS.le.refl h, fun d a ns l s h => by unfold efieldsR; exact RS.le.refl h⟩
 | succ n ih =>
  have ty := fun (d : Nat) (s : RS) (h : s.ok) => (le_types n).1 d s h
  have tk := fun (s : RS) (h : s.ok) (w : Bytes) => take_le h w
  have tt : ∀ {a b : RS} {f : RS → RS}, a.ok → a.le b → (∀ s : RS, s.ok → s.le (f s)) → a.le (f b) := fun ha hab hf => hab.trans (hf _ (ha.of hab))
  refine ⟨fun d s h => ?_, fun d a p h => ?_, fun d a p h => ?_, fun d a s h => ?_, fun d a x q h => ?_, fun d x s h => ?_, fun d s h => ?_, fun d a q h => ?_, fun d a ns l s h => ?_⟩
  ·have hle : s.le (deepR d s) := deep_le h
   unfold exprR
   generalize deepR d s = s1 at hle ⊢
   have ho := h.of hle
   have k1 := tk s1 ho kFun
   have k2 := k1.trans (tk _ (ho.of k1) kLp)
   have k3 := k2.trans (name_le (ho.of k2))
   have k4 := tk s1 ho kLet
   have k5 := k4.trans (name_le (ho.of k4))
   have k6 := tk s1 ho kIf
   split
   ·exact hle
   ·split
    ·exact hle.trans (k3.trans (ih.fn _ _ _ (ho.of k3)))
    ·split
     ·exact hle.trans (k5.trans (ih.lt _ _ _ (ho.of k5)))
     ·split
      ·exact hle.trans (k6.trans (ih.ie _ _ _ (ho.of k6)))
      ·exact hle.trans (tt (f := fun s => (postR n d (basicR n d s1).1 s).2) ho (ih.basic d s1 ho) fun s h => ih.post _ _ s h)
  ·unfold funR
   have k1 := tk p.2 h kColon
   have k2 := k1.trans (ty (d + 1) _ (h.of k1))
   have k3 := k2.trans (tk _ (h.of k2) kRp)
   split
   ·exact k1
   ·split
    ·exact k3
    ·exact k3.trans (ih.expr _ _ (h.of k3))
  ·unfold letR
   have k1 := tk p.2 h kEq
   have k2 := k1.trans (ih.expr (d + 1) _ (h.of k1))
   have k3 := k2.trans (tk _ (h.of k2) kIn)
   exact k3.trans (ih.expr (d + 1) _ (h.of k3))
  ·unfold ifR
   have k2 := ih.expr (d + 1) s h
   have k3 := k2.trans (tk _ (h.of k2) kThen)
   have k4 := k3.trans (ih.expr (d + 1) _ (h.of k3))
   exact k4.trans (ih.el _ _ _ _ (h.of k4))
  ·unfold elseR
   have k1 := tk q.2 h kElse
   exact k1.trans (ih.expr (d + 1) _ (h.of k1))
  ·unfold postR
   have k1 := tk s h kLp
   have k2 := k1.trans (ih.expr (d + 1) _ (h.of k1))
   have k3 := k2.trans (tk _ (h.of k2) kRp)
   have k4 := tk s h kDot
   have k5 := k4.trans (name_le (h.of k4))
   split
   ·exact k3.trans (ih.post _ _ _ (h.of k3))
   ·split
    ·exact k5.trans (ih.post _ _ _ (h.of k5))
    ·exact RS.le.refl h
  ·unfold basicR
   have k1 := tk s h kLb
   have k2 := tk s h kLp
   have k3 := k2.trans (ih.expr (d + 1) _ (h.of k2))
   split
   ·exact RS.le.refl h
   ·split
    ·exact next_le h (by omega)
    ·split
     ·exact next_le h (by omega)
     ·split
      ·exact next_le h (by omega)
      ·split
       ·exact tk s h _
       ·split
        ·exact tk s h _
        ·split
         ·exact k1.trans (ih.fields _ _ _ _ _ (h.of k1))
         ·split
          ·exact k2
          ·exact k3.trans (ih.as_ _ _ _ (h.of k3))
  ·rw [asR]
   have k1 := tk q.2 h kColon
   have k2 := k1.trans (ty (d + 1) _ (h.of k1))
   split
   ·exact k2.trans (tk _ (h.of k2) kRp)
   ·exact tk q.2 h kRp
  ·unfold efieldsR
   split
   ·have k0 := (name_le h).trans (tk _ (h.of (name_le h)) kEq)
    split
    ·exact k0
    ·rename_i hb
     have hb : (takeR (nameR s).2 kEq).bad = false := by simpa using hb
     split
     ·have k1 := twice_le h kEq hb
      have k2 := k1.trans (ih.expr (d + 1) _ (h.of k1))
      have k3 := k2.trans (comma_le (h.of k2))
      exact k3.trans (ih.fields _ _ _ _ _ (h.of k3))
     ·have k2 := k0.trans (ih.expr (d + 1) _ (h.of k0))
      have k3 := k2.trans (comma_le (h.of k2))
      exact k3.trans (ih.fields _ _ _ _ _ (h.of k3))
   ·exact tk s h _
end Go.Ag
/- Package cupelref05: basic, Expr. -/
namespace Go.Ag
open Go
variable {T : Tab} {L : Lnk}
structure ExSpec (T : Tab) (n : Nat) : Prop where
 expr : ∀ (d : Nat) (s : RS), s.ok → d ≤ 65 → 6 * s.rem + 8 ≤ n → RC T.L 42 [.int .i64 d] s (exprR n d s).1.av (exprR n d s).2
 basic : ∀ (d : Nat) (s : RS), s.ok → d ≤ 64 → 6 * s.rem + 7 ≤ n → RC T.L 63 [.int .i64 d] s (basicR n d s).1.av (basicR n d s).2
theorem weak_ea (k p : Int) (nm : Bytes) (m : Int) (ns : List Bytes) (l : List EA) (ts : List TA) (t1 t2 t3 : Tok) :
  Weak L (.agg [.int .i64 k, .int .i64 p, .str nm, .int .i64 m, .lst (strA ns) t1, .lst (EA.avs l) t2, .lst (TA.avs ts) t3]) (EA.mk k p nm m ns l ts).av := by
 rw [EA.av]
 exact Weak.agg ⟨Weak.refl _, Weak.refl _, Weak.refl _, Weak.refl _, Weak.tok _ _, Weak.tok _ _, Weak.tok _ _, trivial⟩
theorem weak_zeroE : Weak L (.agg [.int .i64 0, .int .i64 0, .str [], .int .i64 0, .lst [] .nil, .lst [] .nil, .lst [] .nil]) zeroE.av := weak_ea 0 0 [] 0 [] [] [] _ _ _
theorem tok_txt {s : RS} (h : s.ok) : s.tok.text.length ≤ 2 ^ 40 := h.txt _ (List.mem_of_getElem? (tok_at h))
theorem basic_step (F : RFns T) (n : Nat) (ih : ∀ m, m ≤ n → ExSpec T m) (d : Nat) (s : RS) (hs : s.ok) (hd : d ≤ 64) (hf : 6 * s.rem + 7 ≤ n + 1) : RC T.L 63 [.int .i64 d] s (basicR (n + 1) d s).1.av (basicR (n + 1) d s).2 := by
 refine RC.of 2 (low_ea _ _) (acallsG F.h63 (by simp [c_63]) ?_)
 obtain ⟨R, hR⟩ : ∃ R, basicR (n + 1) d s = R := ⟨_, rfl⟩
 rw [hR]
 rw [basicR] at hR
 conv => whnf
 cases hb : s.bad
 ·rw [if_neg (by simp [hb])] at hR
  conv => whnf
  refine step_tok hs ?_
  conv => whnf
  cases hk1 : (s.tok.kind == 1)
  ·rw [if_neg (by simpa using hk1)] at hR
   conv => whnf
   cases hk3 : (s.tok.kind == 3)
   ·rw [if_neg (by simpa using hk3)] at hR
    conv => whnf
    cases hk4 : (s.tok.kind == 4)
    ·rw [if_neg (by simpa using hk4)] at hR
     conv => whnf
     refine F.is hs kTrue _ rfl ?_
     cases h0 : isR s kTrue
     ·rw [if_neg (by simp [h0])] at hR
      conv => whnf
      refine F.is hs kFalse _ rfl ?_
      cases h1 : isR s kFalse
      ·rw [if_neg (by simp [h1])] at hR
       conv => whnf
       refine F.is hs kLb _ rfl ?_
       cases h2 : isR s kLb
       ·rw [if_neg (by simp [h2])] at hR
        conv => whnf
        refine F.take hs kLp _ rfl ?_
        have k1 := take_le hs kLp
        have hs1 := hs.of k1
        have hr : (takeR s kLp).bad = false → (takeR s kLp).rem + 1 = s.rem := fun h => take_rem hs (take_bad h).2.1
        generalize takeR s kLp = s1 at k1 hs1 hr hR ⊢
        conv => whnf
        cases hb1 : s1.bad
        ·rw [if_neg (by simp [hb1])] at hR
         have hr := hr hb1
         conv => whnf
         rw [addN (by omega)]
         have hq := (ih n (Nat.le_refl _)).expr (d + 1) s1 hs1 (by omega) (by omega)
         have hle := (le_exprs n).expr (d + 1) s1 hs1
         have hre := hle.rem
         obtain ⟨q, hqe⟩ : ∃ q, exprR n (d + 1) s1 = q := ⟨_, rfl⟩
         rw [hqe] at hq hle hR hre
         obtain ⟨m, rfl⟩ : ∃ m, n = m + 1 := ⟨n - 1, by omega⟩
         rw [asR] at hR
         obtain ⟨⟨k', p', nm', m', ns', l', ts'⟩, s2⟩ := q
         dsimp only at hq hle hR hre
         refine hq.to (low1 (.int _ _)) (low_ea _ _) _ rfl ?_
         have hs2 := hs1.of hle
         conv => whnf
         refine F.is hs2 kColon _ rfl ?_
         cases h3 : isR s2 kColon
         ·rw [if_neg (by simp [h3])] at hR
          subst hR
          conv => whnf
          refine F.take hs2 kRp _ rfl ?_
          conv => whnf
          exact ⟨_, rfl, weak_ea _ _ _ _ _ _ _ _ _ _, rfl⟩
         ·rw [if_pos h3] at hR
          conv => whnf
          refine F.take hs2 kColon _ rfl ?_
          have k3 := take_le hs2 kColon
          have hs3 := hs2.of k3
          have hr3 := k3.rem
          generalize takeR s2 kColon = s3 at k3 hs3 hR hr3 ⊢
          conv => whnf
          rw [addN (by omega)]
          have hq := (ty_all F m).type (d + 1) s3 hs3 (by omega) (by omega)
          have hle := (le_types m).1 (d + 1) s3 hs3
          obtain ⟨q, hqe⟩ : ∃ q, typeR m (d + 1) s3 = q := ⟨_, rfl⟩
          rw [hqe] at hq hle hR
          obtain ⟨⟨k4, nm4, ns4, l4⟩, s4⟩ := q
          dsimp only at hq hle hR
          subst hR
          refine hq.to (low1 (.int _ _)) (low_ta _ _) _ rfl ?_
          conv => whnf
          refine F.take (hs3.of hle) kRp _ rfl ?_
          conv => whnf
          exact ⟨_, rfl, weak_ea 11 s.tok.at_ [] 0 [] [.mk k' p' nm' m' ns' l' ts'] [.mk k4 nm4 ns4 l4] _ _ _, rfl⟩
        ·rw [if_pos hb1] at hR
         subst hR
         conv => whnf
         exact ⟨_, rfl, weak_zeroE, rfl⟩
       ·rw [if_pos h2] at hR
        conv => whnf
        refine F.take hs kLb _ rfl ?_
        have k1 := take_le hs kLb
        have hs1 := hs.of k1
        have hr := take_rem hs h2
        generalize takeR s kLb = s1 at k1 hs1 hr hR ⊢
        conv => whnf
        intro I hI hG
        have key : ∀ (m : Nat) (s' : RS) (names : List Bytes) (l : List EA) (XS YS : List AVal) (e : Env), m ≤ n → s'.ok → 6 * s'.rem + 8 ≤ m → l.length = names.length → names.length + s'.rem ≤ 2 ^ 34 → R = efieldsR m d s.tok.at_ names l s' → XS = strA names → YS = EA.avs l →
          I (setL e [(0, .ptr 1 0), (1, .int .i64 d), (4, .ptr 4 0), (8, .ptr 6 0)]) [dobjR s', robj s', dobj XS.length 10, dobj YS.length 70, .cells [.int .i64 0, .int .i64 0, .str [], .int .i64 0, .lst [] .nil, .lst [] .nil, .lst [] .nil] 70,
           .cells [.int .i64 s.tok.kind, .int .i64 s.tok.at_, .str s.tok.text] 86, .cells [.int .i64 5, .int .i64 s.tok.at_, .str [], .int .i64 0, .lst XS (dtok XS.length 2), .lst YS (dtok YS.length 3), .lst [] .nil] 70] := by
         intro m
         induction m with
         | zero => intro s' names l XS YS e _ _ h; omega
         | succ m ihm =>
          intro s' names l XS YS e hm hs' hf' hl1 hl2 hv hX hY
          rw [efieldsR] at hv
          have next : ∀ (s2 : RS) (names2 : List Bytes) (l2 : List EA) (XS YS : List AVal) (e2 : Env) (H2 : Heap), s2.ok → 6 * s2.rem + 8 ≤ m → l2.length = names2.length → names2.length + s2.rem ≤ 2 ^ 34 → R = efieldsR m d s.tok.at_ names2 l2 s2 → XS = strA names2 → YS = EA.avs l2 →
            H2.take 7 = [dobjR s2, robj s2, dobj XS.length 10, dobj YS.length 70, .cells [.int .i64 0, .int .i64 0, .str [], .int .i64 0, .lst [] .nil, .lst [] .nil, .lst [] .nil] 70,
             .cells [.int .i64 s.tok.kind, .int .i64 s.tok.at_, .str s.tok.text] 86, .cells [.int .i64 5, .int .i64 s.tok.at_, .str [], .int .i64 0, .lst XS (dtok XS.length 2), .lst YS (dtok YS.length 3), .lst [] .nil] 70] →
            envHas e2 [(0, .ptr 1 0), (1, .int .i64 d), (4, .ptr 4 0), (8, .ptr 6 0)] → I e2 H2 := fun s2 names2 l2 XS YS e2 H2 c1 c2 c3 c4 c5 c6 c7 c8 c9 =>
           hG.keep [(0, .ptr 1 0), (1, .int .i64 d), (4, .ptr 4 0), (8, .ptr 6 0)] [dobjR s2, robj s2, dobj XS.length 10, dobj YS.length 70, .cells [.int .i64 0, .int .i64 0, .str [], .int .i64 0, .lst [] .nil, .lst [] .nil, .lst [] .nil] 70,
             .cells [.int .i64 s.tok.kind, .int .i64 s.tok.at_, .str s.tok.text] 86, .cells [.int .i64 5, .int .i64 s.tok.at_, .str [], .int .i64 0, .lst XS (dtok XS.length 2), .lst YS (dtok YS.length 3), .lst [] .nil] 70] (Nat.le_refl 7) c8 c9
            ⟨.ptr _ _ (by decide : 1 < 7), .int _ _, .ptr _ _ (by decide : 4 < 7), .ptr _ _ (by decide : 6 < 7), trivial⟩
            ⟨dobj_low _ _ _, low_robjN (n := 7) (by decide) _, dobj_low _ _ _, dobj_low _ _ _, lowC ⟨.int _ _, .int _ _, .str _, .int _ _, .lst _ _ trivial low0, .lst _ _ trivial low0, .lst _ _ trivial low0, trivial⟩, lowC ⟨.int _ _, .int _ _, .str _, trivial⟩,
             lowC ⟨.int _ _, .int _ _, .str _, .int _ _, by rw [c6]; exact low_strs' _ _ _ (dtok_low (by decide : 2 < 7)), .lst _ _ (dtok_low (by decide : 3 < 7)) (by rw [c7]; exact low_eas _ _), .lst _ _ trivial low0, trivial⟩, trivial⟩
            (ihm s2 names2 l2 XS YS _ (by omega) c1 c2 c3 c4 c5 c6 c7)
          apply hI
          conv => whnf
          cases hb' : s'.bad
          ·conv => whnf
           refine F.is hs' kRb _ rfl ?_
           cases hi' : isR s' kRb
           ·rw [if_pos (by simp [hb', hi'])] at hv
            conv => whnf
            refine F.name hs' _ rfl ?_
            have n1 := name_le hs'
            have n3 := twice_le hs' kEq
            obtain ⟨p, hp⟩ : ∃ p, nameR s' = p := ⟨_, rfl⟩
            rw [hp] at hv n1 n3 ⊢
            have hs2 := hs'.of n1
            conv => whnf
            refine F.take hs2 kEq _ rfl ?_
            have n4 := take_le hs2 kEq
            obtain ⟨s3, hs3e⟩ : ∃ s3, takeR p.2 kEq = s3 := ⟨_, rfl⟩
            rw [hs3e] at hv n3 n4 ⊢
            have hs3 := hs2.of n4
            conv => whnf
            cases hb3 : s3.bad
            ·rw [if_neg (by simp [hb3])] at hv
             have hr3 : s3.rem + 2 = s'.rem := by
              rw [← hs3e, ← hp]
              exact two_rem hs' kEq (by rw [hp, hs3e]; exact hb3)
             have hle3 := n3 hb3
             have hX1 : XS.length = names.length := by rw [hX, strA_len]
             have hY1 : YS.length = names.length := by rw [hY, eas_len, hl1]
             have sX : Sized 1 XS := by rw [hX]; exact sized_strA _
             have sY : Sized 7 YS := by rw [hY]; exact sized_eas _
             conv => whnf
             refine ((has_spec F.h85 names p.1.text (by omega) .none trivial).weak (args := [.lst XS (dtok XS.length 2), .str p.1.text]) ⟨by rw [hX]; exact Weak.tok _ _, Weak.refl _, trivial⟩).to ?_
             cases ht : hasR names p.1.text
             case' true =>
              rw [if_pos ht] at hv
              conv => whnf
              refine app_diag hs3 ⟨p.1.at_, 4, p.1.text⟩ rfl rfl ?_
              conv => whnf
              rw [addN (by omega)]
              have hs4 := hs'.of hle3
              have hq := (ih m (by omega)).expr (d + 1) (twiceR s3 p.1) hs4 (by omega) (by show 6 * s3.rem + 8 ≤ m; omega)
              have hle4 := (le_exprs m).expr (d + 1) (twiceR s3 p.1) hs4
              have hre4 := hle4.rem
              have hre5 : (twiceR s3 p.1).rem = s3.rem := rfl
              obtain ⟨q, hqe⟩ : ∃ q, exprR m (d + 1) (twiceR s3 p.1) = q := ⟨_, rfl⟩
              rw [hqe] at hv hq hle4 hre4
              obtain ⟨⟨k', p', nm', m', ns', l', ts'⟩, s5⟩ := q
              dsimp only at hv hq hle4 hre4
              refine hq.to (low1 (.int _ _)) (low_ea _ _) _ rfl ?_
              have hs5 := hs4.of hle4
              have hv2 : R = efieldsR m d s.tok.at_ names l (commaR s5) := hv
              have hl3 : l.length = names.length := hl1
              have hl4 : names.length ≤ names.length + 1 := by omega
              have hX2 : XS = strA names := hX
              have hY2 : YS = EA.avs l := hY
              conv => whnf
             case' false =>
              rw [if_neg (by simp [ht])] at hv
              conv => whnf
              rw [addN (by omega)]
              have hq := (ih m (by omega)).expr (d + 1) s3 hs3 (by omega) (by omega)
              have hle4 := (le_exprs m).expr (d + 1) s3 hs3
              have hre4 := hle4.rem
              obtain ⟨q, hqe⟩ : ∃ q, exprR m (d + 1) s3 = q := ⟨_, rfl⟩
              rw [hqe] at hv hq hle4 hre4
              obtain ⟨⟨k', p', nm', m', ns', l', ts'⟩, s5⟩ := q
              dsimp only at hv hq hle4 hre4
              refine hq.to (low1 (.int _ _)) (low_ea _ _) _ rfl ?_
              have hs5 := hs3.of hle4
              conv => whnf
              refine app_slot (id := 2) sX (sized_one rfl) (by rw [hX1]; simp; omega) (by rw [hX1]; simp; omega) (by simp) rfl ?_
              conv => whnf
              refine app_slot (id := 3) sY (sized_one rfl) (by rw [hY1]; simp; omega) (by rw [hY1]; simp; omega) (by simp) rfl ?_
              have hv2 : R = efieldsR m d s.tok.at_ (names ++ [p.1.text]) (l ++ [.mk k' p' nm' m' ns' l' ts']) (commaR s5) := hv
              have hl3 : (l ++ [EA.mk k' p' nm' m' ns' l' ts']).length = (names ++ [p.1.text]).length := by simp [hl1]
              have hl4 : (names ++ [p.1.text]).length ≤ names.length + 1 := by simp
              have hX2 : XS ++ [.str p.1.text] = strA (names ++ [p.1.text]) := by rw [hX]; simp [strA]
              have hY2 : YS ++ [.agg [.int .i64 k', .int .i64 p', .str nm', .int .i64 m', .lst (strA ns') .none, .lst (EA.avs l') .none, .lst (TA.avs ts') .none]] = EA.avs (l ++ [.mk k' p' nm' m' ns' l' ts']) := by rw [hY, eas_append]; rfl
              conv => whnf
             all_goals
              refine F.is hs5 kRb _ rfl ?_
              have hc := commaR_eq s5
              cases hi5 : isR s5 kRb
              ·rw [hi5, if_neg (by simp)] at hc
               conv => whnf
               refine F.take hs5 kComma _ rfl ?_
               have n6 := take_le hs5 kComma
               have hr6 := n6.rem
               generalize takeR s5 kComma = s6 at n6 hc hr6 ⊢
               have hs6 := hs5.of n6
               conv => whnf
               refine F.is hs6 kRb _ rfl ?_
               cases hi6 : isR s6 kRb
               ·rw [hi6, if_neg (by simp)] at hc
                rw [hc] at hv2
                conv => whnf
                exact next s6 _ _ _ _ _ _ hs6 (by omega) hl3 (by omega) hv2 hX2 hY2 rfl ⟨rfl, rfl, rfl, rfl, trivial⟩
               ·rw [hi6, if_pos rfl] at hc
                rw [hc] at hv2
                conv => whnf
                refine F.give hs6 2 _ rfl ?_
                conv => whnf
                have hr7 := (give_le hs6 2).rem
                exact next (giveR s6 2) _ _ _ _ _ _ (hs6.of (give_le hs6 2)) (by omega) hl3 (by omega) hv2 hX2 hY2 rfl ⟨rfl, rfl, rfl, rfl, trivial⟩
              ·rw [hi5, if_pos rfl] at hc
               rw [hc] at hv2
               conv => whnf
               exact next s5 _ _ _ _ _ _ hs5 (by omega) hl3 (by omega) hv2 hX2 hY2 rfl ⟨rfl, rfl, rfl, rfl, trivial⟩
            ·rw [if_pos hb3] at hv
             subst hv
             conv => whnf
             exact ⟨_, rfl, weak_zeroE, rfl⟩
           ·rw [if_neg (by simp [hi'])] at hv
            subst hv
            conv => whnf
            refine F.take hs' kRb _ rfl ?_
            conv => whnf
            subst hX hY
            exact ⟨_, rfl, weak_ea 5 _ [] 0 names l [] _ _ _, rfl⟩
          ·rw [if_neg (by simp [hb'])] at hv
           subst hv
           conv => whnf
           refine F.take hs' kRb _ rfl ?_
           conv => whnf
           subst hX hY
           exact ⟨_, rfl, weak_ea 5 _ [] 0 names l [] _ _ _, rfl⟩
        refine inv_of [(0, .ptr 1 0), (1, .int .i64 d), (4, .ptr 4 0), (8, .ptr 6 0)] ⟨rfl, rfl, rfl, rfl, trivial⟩ (key n s1 [] [] [] [] _ (Nat.le_refl _) hs1 (by omega) rfl ?_ hR.symm rfl rfl)
        have := hs.len
        unfold RS.rem at *
        simp
        omega
      ·rw [if_pos h1] at hR
       subst hR
       conv => whnf
       refine F.take hs kFalse _ rfl ?_
       conv => whnf
       exact ⟨_, rfl, weak_ea 3 _ [] 0 [] [] [] _ _ _, rfl⟩
     ·rw [if_pos h0] at hR
      subst hR
      conv => whnf
      refine F.take hs kTrue _ rfl ?_
      conv => whnf
      exact ⟨_, rfl, weak_ea 3 _ [] 1 [] [] [] _ _ _, rfl⟩
    ·rw [if_pos (by simpa using hk4)] at hR
     subst hR
     conv => whnf
     rw [addN hs.i]
     exact ⟨_, rfl, weak_ea 2 _ _ 0 [] [] [] _ _ _, rfl⟩
   ·rw [if_pos (by simpa using hk3)] at hR
    subst hR
    conv => whnf
    refine (number_spec F.h84 s.tok.text (by have := tok_txt hs; omega)).to ?_
    conv => whnf
    refine ⟨⟨rfl, trivial⟩, ?_⟩
    conv => whnf
    rw [addN hs.i]
    exact ⟨_, rfl, weak_ea 1 _ [] _ [] [] [] _ _ _, rfl⟩
  ·rw [if_pos (by simpa using hk1)] at hR
   subst hR
   conv => whnf
   rw [addN hs.i]
   exact ⟨_, rfl, weak_ea 4 _ _ 0 [] [] [] _ _ _, rfl⟩
 ·rw [if_pos hb] at hR
  subst hR
  conv => whnf
  exact ⟨_, rfl, weak_zeroE, rfl⟩
theorem expr_step (F : RFns T) (n : Nat) (ih : ∀ m, m ≤ n → ExSpec T m) (d : Nat) (s : RS) (hs : s.ok) (hd : d ≤ 65) (hf : 6 * s.rem + 8 ≤ n + 1) : RC T.L 42 [.int .i64 d] s (exprR (n + 1) d s).1.av (exprR (n + 1) d s).2 := by
 refine RC.of 0 (low_ea _ _) (acallsG F.h42 (by simp [c_42]) ?_)
 obtain ⟨R, hR⟩ : ∃ R, exprR (n + 1) d s = R := ⟨_, rfl⟩
 rw [hR]
 rw [exprR] at hR
 conv => whnf
 cases hdd : decide ((d : Int) > 64)
 ·have hd64 : ¬ 64 < d := by simp at hdd; omega
  rw [show deepR d s = s from if_neg hd64] at hR
  conv => whnf
  cases hb : s.bad
  ·rw [if_neg (by simp [hb])] at hR
   conv => whnf
   refine step_tok hs ?_
   conv => whnf
   refine ⟨by simp [AVal.cells], ?_⟩
   conv => whnf
   obtain ⟨m, rfl⟩ : ∃ m, n = m + 1 := ⟨n - 1, by omega⟩
   refine F.is hs kFun _ rfl ?_
   cases h0 : isR s kFun
   ·rw [if_neg (by simp [h0])] at hR
    conv => whnf
    refine F.is hs kLet _ rfl ?_
    cases h1 : isR s kLet
    ·rw [if_neg (by simp [h1])] at hR
     conv => whnf
     refine F.is hs kIf _ rfl ?_
     cases h2 : isR s kIf
     ·rw [if_neg (by simp [h2])] at hR
      conv => whnf
      have hq := (ih (m + 1) (Nat.le_refl _)).basic d s hs (by omega) (by omega)
      have hle := (le_exprs (m + 1)).basic d s hs
      have hre := hle.rem
      obtain ⟨q, hqe⟩ : ∃ q, basicR (m + 1) d s = q := ⟨_, rfl⟩
      rw [hqe] at hq hle hR hre
      obtain ⟨⟨a1, a2, a3, a4, a5, a6, a7⟩, s1⟩ := q
      dsimp only at hq hle hR hre
      refine hq.to (low1 (.int _ _)) (low_ea _ _) _ rfl ?_
      have hs1 := hs.of hle
      conv => whnf
      intro I hI hG
      have key : ∀ (mm : Nat) (s' : RS) (k p : Int) (nm : Bytes) (v : Int) (ns : List Bytes) (l : List EA) (ts : List TA) (e : Env), mm ≤ m + 1 → s'.ok → 6 * s'.rem + 7 ≤ mm → R = postR mm d (.mk k p nm v ns l ts) s' →
        I (setL e [(0, .ptr 1 0), (1, .int .i64 d), (4, .ptr 2 0), (14, .ptr 3 0)]) [dobjR s', robj s', .cells [.int .i64 0, .int .i64 0, .str [], .int .i64 0, .lst [] .nil, .lst [] .nil, .lst [] .nil] 70,
         .cells [.int .i64 k, .int .i64 p, .str nm, .int .i64 v, .lst (strA ns) .none, .lst (EA.avs l) .none, .lst (TA.avs ts) .none] 70] := by
       intro mm
       induction mm with
       | zero => intro s' k p nm v ns l ts e _ _ h; omega
       | succ mm ihm =>
        intro s' k p nm v ns l ts e hm hs' hf' hv
        rw [postR] at hv
        have next : ∀ (s2 : RS) (k p : Int) (nm : Bytes) (v : Int) (ns : List Bytes) (l : List EA) (ts : List TA) (t1 t2 t3 : Tok) (e2 : Env) (H2 : Heap), s2.ok → 6 * s2.rem + 7 ≤ mm → R = postR mm d (.mk k p nm v ns l ts) s2 →
          H2.take 4 = [dobjR s2, robj s2, .cells [.int .i64 0, .int .i64 0, .str [], .int .i64 0, .lst [] .nil, .lst [] .nil, .lst [] .nil] 70,
           .cells [.int .i64 k, .int .i64 p, .str nm, .int .i64 v, .lst (strA ns) t1, .lst (EA.avs l) t2, .lst (TA.avs ts) t3] 70] →
          envHas e2 [(0, .ptr 1 0), (1, .int .i64 d), (4, .ptr 2 0), (14, .ptr 3 0)] → I e2 H2 := fun s2 k p nm v ns l ts t1 t2 t3 e2 H2 c1 c2 c3 c4 c5 =>
         hG.nextS [(0, .ptr 1 0), (1, .int .i64 d), (4, .ptr 2 0), (14, .ptr 3 0)] [dobjR s2, robj s2, .cells [.int .i64 0, .int .i64 0, .str [], .int .i64 0, .lst [] .nil, .lst [] .nil, .lst [] .nil] 70,
           .cells [.int .i64 k, .int .i64 p, .str nm, .int .i64 v, .lst (strA ns) .none, .lst (EA.avs l) .none, .lst (TA.avs ts) .none] 70]
          [dobjR s2, robj s2, .cells [.int .i64 0, .int .i64 0, .str [], .int .i64 0, .lst [] .nil, .lst [] .nil, .lst [] .nil] 70,
           .cells [.int .i64 k, .int .i64 p, .str nm, .int .i64 v, .lst (strA ns) t1, .lst (EA.avs l) t2, .lst (TA.avs ts) t3] 70] (H2.drop 4) (by conv => lhs; rw [← List.take_append_drop 4 H2, c4]) (Nat.le_refl 4)
          ⟨WeakO.refl _, WeakO.refl _, WeakO.refl _, ⟨rfl, Weak.refl _, Weak.refl _, Weak.refl _, Weak.refl _, Weak.tok _ _, Weak.tok _ _, Weak.tok _ _, trivial⟩, trivial⟩
          (slots_of c5 ⟨.ptr _ _ (by decide : 1 < 4), .int _ _, .ptr _ _ (by decide : 2 < 4), .ptr _ _ (by decide : 3 < 4), trivial⟩)
          ⟨dobj_low _ _ _, low_robjN (n := 4) (by decide) _, lowC ⟨.int _ _, .int _ _, .str _, .int _ _, .lst _ _ trivial low0, .lst _ _ trivial low0, .lst _ _ trivial low0, trivial⟩,
           lowC ⟨.int _ _, .int _ _, .str _, .int _ _, low_strs' _ _ _ trivial, .lst _ _ trivial (low_eas _ _), .lst _ _ trivial (low_tas _ _), trivial⟩, trivial⟩
          (ihm s2 k p nm v ns l ts _ (by omega) c1 c2 c3)
        apply hI
        conv => whnf
        refine F.is hs' kLp _ rfl ?_
        cases h3 : isR s' kLp
        ·rw [if_neg (by simp [h3])] at hv
         conv => whnf
         refine F.is hs' kDot _ rfl ?_
         cases h4 : isR s' kDot
         ·rw [if_neg (by simp [h4])] at hv
          subst hv
          conv => whnf
          exact ⟨_, rfl, weak_ea _ _ _ _ _ _ _ _ _ _, rfl⟩
         ·rw [if_pos h4] at hv
          conv => whnf
          refine step_tok hs' ?_
          conv => whnf
          refine ⟨by simp [AVal.cells], ?_⟩
          conv => whnf
          refine F.is hs' kLp _ rfl ?_
          rw [h3]
          conv => whnf
          refine F.take hs' kDot _ rfl ?_
          have k1 := take_le hs' kDot
          have hr := take_rem hs' h4
          generalize takeR s' kDot = s2 at k1 hr hv ⊢
          have hs2 := hs'.of k1
          conv => whnf
          refine F.name hs2 _ rfl ?_
          have n1 := name_le hs2
          have hrn := n1.rem
          obtain ⟨p', hp⟩ : ∃ p, nameR s2 = p := ⟨_, rfl⟩
          rw [hp] at hv n1 hrn ⊢
          have hs3 := hs2.of n1
          conv => whnf
          exact next p'.2 _ _ _ _ [] [.mk k p nm v ns l ts] [] _ _ _ _ _ hs3 (by omega) hv rfl ⟨rfl, rfl, rfl, rfl, trivial⟩
        ·rw [if_pos h3] at hv
         conv => whnf
         refine step_tok hs' ?_
         conv => whnf
         refine ⟨by simp [AVal.cells], ?_⟩
         conv => whnf
         refine F.is hs' kLp _ rfl ?_
         rw [h3]
         conv => whnf
         refine F.take hs' kLp _ rfl ?_
         have k1 := take_le hs' kLp
         have hr := take_rem hs' h3
         generalize takeR s' kLp = s2 at k1 hr hv ⊢
         have hs2 := hs'.of k1
         conv => whnf
         rw [addN (by omega)]
         have hq := (ih mm (by omega)).expr (d + 1) s2 hs2 (by omega) (by omega)
         have hle := (le_exprs mm).expr (d + 1) s2 hs2
         have hre := hle.rem
         obtain ⟨q, hqe⟩ : ∃ q, exprR mm (d + 1) s2 = q := ⟨_, rfl⟩
         rw [hqe] at hq hle hv hre
         obtain ⟨⟨c1, c2, c3, c4, c5, c6, c7⟩, s3⟩ := q
         dsimp only at hq hle hv hre
         refine hq.to (low1 (.int _ _)) (low_ea _ _) _ rfl ?_
         have hs3 := hs2.of hle
         conv => whnf
         refine F.take hs3 kRp _ rfl ?_
         have k5 := take_le hs3 kRp
         have hr5 := k5.rem
         generalize takeR s3 kRp = s5 at k5 hv hr5 ⊢
         conv => whnf
         exact next s5 _ _ [] 0 [] [.mk k p nm v ns l ts, .mk c1 c2 c3 c4 c5 c6 c7] [] _ _ _ _ _ (hs3.of k5) (by omega) hv rfl ⟨rfl, rfl, rfl, rfl, trivial⟩
      exact inv_of [(0, .ptr 1 0), (1, .int .i64 d), (4, .ptr 2 0), (14, .ptr 3 0)] ⟨rfl, rfl, rfl, rfl, trivial⟩ (key (m + 1) s1 _ _ _ _ _ _ _ _ (Nat.le_refl _) hs1 (by omega) hR.symm)
     ·rw [if_pos h2, ifR] at hR
      conv => whnf
      refine F.take hs kIf _ rfl ?_
      have k1 := take_le hs kIf
      have hr := take_rem hs h2
      generalize takeR s kIf = s1 at k1 hr hR ⊢
      have hs1 := hs.of k1
      conv => whnf
      rw [addN (by omega)]
      have hq := (ih m (by omega)).expr (d + 1) s1 hs1 (by omega) (by omega)
      have hle := (le_exprs m).expr (d + 1) s1 hs1
      have hre := hle.rem
      obtain ⟨q, hqe⟩ : ∃ q, exprR m (d + 1) s1 = q := ⟨_, rfl⟩
      rw [hqe] at hq hle hR hre
      obtain ⟨⟨a1, a2, a3, a4, a5, a6, a7⟩, s2⟩ := q
      dsimp only at hq hle hR hre
      refine hq.to (low1 (.int _ _)) (low_ea _ _) _ rfl ?_
      have hs2 := hs1.of hle
      conv => whnf
      refine F.take hs2 kThen _ rfl ?_
      have k3 := take_le hs2 kThen
      have hr3 := k3.rem
      generalize takeR s2 kThen = s3 at k3 hR hr3 ⊢
      have hs3 := hs2.of k3
      conv => whnf
      rw [addN (by omega)]
      have hq := (ih m (by omega)).expr (d + 1) s3 hs3 (by omega) (by omega)
      have hle := (le_exprs m).expr (d + 1) s3 hs3
      have hre3 := hle.rem
      obtain ⟨q, hqe⟩ : ∃ q, exprR m (d + 1) s3 = q := ⟨_, rfl⟩
      rw [hqe] at hq hle hR hre3
      obtain ⟨m', rfl⟩ : ∃ m', m = m' + 1 := ⟨m - 1, by omega⟩
      rw [elseR] at hR
      obtain ⟨⟨b1, b2, b3, b4, b5, b6, b7⟩, s4⟩ := q
      dsimp only at hq hle hR hre3
      refine hq.to (low1 (.int _ _)) (low_ea _ _) _ rfl ?_
      have hs4 := hs3.of hle
      conv => whnf
      refine F.take hs4 kElse _ rfl ?_
      have k5 := take_le hs4 kElse
      have hr5 := k5.rem
      generalize takeR s4 kElse = s5 at k5 hR hr5 ⊢
      have hs5 := hs4.of k5
      conv => whnf
      rw [addN (by omega)]
      have hq := (ih m' (by omega)).expr (d + 1) s5 hs5 (by omega) (by omega)
      obtain ⟨q, hqe⟩ : ∃ q, exprR m' (d + 1) s5 = q := ⟨_, rfl⟩
      rw [hqe] at hq hR
      obtain ⟨⟨c1, c2, c3, c4, c5, c6, c7⟩, s6⟩ := q
      dsimp only at hq hR
      subst hR
      refine hq.to (low1 (.int _ _)) (low_ea _ _) _ rfl ?_
      conv => whnf
      exact ⟨_, rfl, weak_ea 10 s.tok.at_ [] 0 [] [.mk a1 a2 a3 a4 a5 a6 a7, .mk b1 b2 b3 b4 b5 b6 b7, .mk c1 c2 c3 c4 c5 c6 c7] [] _ _ _, rfl⟩
    ·rw [if_pos h1, letR] at hR
     conv => whnf
     refine F.take hs kLet _ rfl ?_
     have k1 := take_le hs kLet
     have hr := take_rem hs h1
     generalize takeR s kLet = s1 at k1 hr hR ⊢
     have hs1 := hs.of k1
     conv => whnf
     refine F.name hs1 _ rfl ?_
     have n1 := name_le hs1
     have hrn := n1.rem
     obtain ⟨p, hp⟩ : ∃ p, nameR s1 = p := ⟨_, rfl⟩
     rw [hp] at hR n1 hrn ⊢
     have hs2 := hs1.of n1
     conv => whnf
     refine F.take hs2 kEq _ rfl ?_
     have k3 := take_le hs2 kEq
     have hr3 := k3.rem
     generalize takeR p.2 kEq = s3 at k3 hR hr3 ⊢
     have hs3 := hs2.of k3
     conv => whnf
     rw [addN (by omega)]
     have hq := (ih m (by omega)).expr (d + 1) s3 hs3 (by omega) (by omega)
     have hle := (le_exprs m).expr (d + 1) s3 hs3
     have hre := hle.rem
     obtain ⟨q, hqe⟩ : ∃ q, exprR m (d + 1) s3 = q := ⟨_, rfl⟩
     rw [hqe] at hq hle hR hre
     obtain ⟨⟨a1, a2, a3, a4, a5, a6, a7⟩, s4⟩ := q
     dsimp only at hq hle hR hre
     refine hq.to (low1 (.int _ _)) (low_ea _ _) _ rfl ?_
     have hs4 := hs3.of hle
     conv => whnf
     refine F.take hs4 kIn _ rfl ?_
     have k5 := take_le hs4 kIn
     have hr5 := k5.rem
     generalize takeR s4 kIn = s5 at k5 hR hr5 ⊢
     have hs5 := hs4.of k5
     conv => whnf
     rw [addN (by omega)]
     have hq := (ih m (by omega)).expr (d + 1) s5 hs5 (by omega) (by omega)
     obtain ⟨q, hqe⟩ : ∃ q, exprR m (d + 1) s5 = q := ⟨_, rfl⟩
     rw [hqe] at hq hR
     obtain ⟨⟨c1, c2, c3, c4, c5, c6, c7⟩, s6⟩ := q
     dsimp only at hq hR
     subst hR
     refine hq.to (low1 (.int _ _)) (low_ea _ _) _ rfl ?_
     conv => whnf
     exact ⟨_, rfl, weak_ea 9 s.tok.at_ p.1.text 0 [] [.mk a1 a2 a3 a4 a5 a6 a7, .mk c1 c2 c3 c4 c5 c6 c7] [] _ _ _, rfl⟩
   ·rw [if_pos h0, funR] at hR
    conv => whnf
    refine F.take hs kFun _ rfl ?_
    have k0 := take_le hs kFun
    have hr0 := take_rem hs h0
    generalize takeR s kFun = s0 at k0 hr0 hR ⊢
    have hs0 := hs.of k0
    conv => whnf
    refine F.take hs0 kLp _ rfl ?_
    have k1 := take_le hs0 kLp
    have hr := k1.rem
    generalize takeR s0 kLp = s1 at k1 hr hR ⊢
    have hs1 := hs0.of k1
    conv => whnf
    refine F.name hs1 _ rfl ?_
    have n1 := name_le hs1
    have hrn := n1.rem
    obtain ⟨p, hp⟩ : ∃ p, nameR s1 = p := ⟨_, rfl⟩
    rw [hp] at hR n1 hrn ⊢
    have hs2 := hs1.of n1
    conv => whnf
    refine F.take hs2 kColon _ rfl ?_
    have k3 := take_le hs2 kColon
    have hr3 := k3.rem
    generalize takeR p.2 kColon = s3 at k3 hR hr3 ⊢
    have hs3 := hs2.of k3
    conv => whnf
    cases hb3 : s3.bad
    ·rw [if_neg (by simp [hb3])] at hR
     conv => whnf
     rw [addN (by omega)]
     have hq := (ty_all F m).type (d + 1) s3 hs3 (by omega) (by omega)
     have hle := (le_types m).1 (d + 1) s3 hs3
     have hre := hle.rem
     obtain ⟨q, hqe⟩ : ∃ q, typeR m (d + 1) s3 = q := ⟨_, rfl⟩
     rw [hqe] at hq hle hR hre
     obtain ⟨⟨a1, a2, a3, a4⟩, s4⟩ := q
     dsimp only at hq hle hR hre
     refine hq.to (low1 (.int _ _)) (low_ta _ _) _ rfl ?_
     have hs4 := hs3.of hle
     conv => whnf
     refine F.take hs4 kRp _ rfl ?_
     have k5 := take_le hs4 kRp
     have hr5 := k5.rem
     generalize takeR s4 kRp = s5 at k5 hR hr5 ⊢
     have hs5 := hs4.of k5
     conv => whnf
     cases hb5 : s5.bad
     ·rw [if_neg (by simp [hb5])] at hR
      conv => whnf
      rw [addN (by omega)]
      have hq := (ih m (by omega)).expr (d + 1) s5 hs5 (by omega) (by omega)
      obtain ⟨q, hqe⟩ : ∃ q, exprR m (d + 1) s5 = q := ⟨_, rfl⟩
      rw [hqe] at hq hR
      obtain ⟨⟨c1, c2, c3, c4, c5, c6, c7⟩, s6⟩ := q
      dsimp only at hq hR
      subst hR
      refine hq.to (low1 (.int _ _)) (low_ea _ _) _ rfl ?_
      conv => whnf
      refine ⟨⟨rfl, rfl, trivial⟩, ?_⟩
      conv => whnf
      exact ⟨_, rfl, weak_ea 8 s.tok.at_ p.1.text 0 [] [.mk c1 c2 c3 c4 c5 c6 c7] [.mk a1 a2 a3 a4] _ _ _, rfl⟩
     ·rw [if_pos hb5] at hR
      subst hR
      conv => whnf
      exact ⟨_, rfl, weak_zeroE, rfl⟩
    ·rw [if_pos hb3] at hR
     subst hR
     conv => whnf
     exact ⟨_, rfl, weak_zeroE, rfl⟩
  ·rw [if_pos hb] at hR
   subst hR
   conv => whnf
   exact ⟨_, rfl, weak_zeroE, rfl⟩
 ·have hd64 : 64 < d := by simp at hdd; omega
  rw [show deepR d s = giveR s 3 from if_pos hd64, if_pos (give_bad s 3)] at hR
  subst hR
  conv => whnf
  refine F.give hs 3 _ rfl ?_
  conv => whnf
  rw [give_bad]
  conv => whnf
  exact ⟨_, rfl, weak_zeroE, rfl⟩
theorem ex_all (F : RFns T) : ∀ n, ExSpec T n := fun n => Nat.strongRecOn n fun n ih => by
 cases n with
 | zero => exact ⟨fun d s hs hd hf => by omega, fun d s hs hd hf => by omega⟩
 | succ n =>
  have ih' : ∀ m, m ≤ n → ExSpec T m := fun m hm => ih m (by omega)
  exact ⟨fun d s hs hd hf => expr_step F n ih' d s hs hd hf, fun d s hs hd hf => basic_step F n ih' d s hs hd hf⟩
end Go.Ag

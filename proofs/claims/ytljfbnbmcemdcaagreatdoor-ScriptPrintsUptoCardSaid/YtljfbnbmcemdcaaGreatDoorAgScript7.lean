/- Package cupellaw21: alive, ScriptParses. -/
import Derived.Test.YtljfbnbmcemdcaaGreatDoorAgScriptLaw
import Derived.Lib.AtoiAll
import Derived.Lib.ItoaNum
import Derived.Lib.Bytealg
set_option linter.unusedVariables false
namespace Go.Ag
open Go

variable {T : Tab} {L : Lnk}

def idxC (c : UInt8) : Int := Lib.indexByte digitsA c
def atoiC (s : List UInt8) : Int × Bool := match Lib.atoiAll s with
  | .ok v => (v, true)
  | .range => (Lib.atoiSat s, false)
  | _ => (0, false)

/-- The library's functions are these. -/
structure LibIs (Y : ScriptLib5 L) : Prop where
  idx : Y.idxD = idxC
  itoa : Y.itoaA = Lib.itoa
  atoi : Y.atoiA = atoiC

theorem itoa0 : Lib.itoa 0 = [48] := by
  unfold Lib.itoa Lib.decDigits
  rfl

theorem step_put : stepA idxC atoiC (splitA 32 [112, 117, 116, 32, 102, 32, 48, 32, 54, 99, 54, 53, 55, 52]) = (⟨0, [102], [108, 101, 116], 0⟩, true) := by rfl
theorem step_none : stepA idxC atoiC (splitA 32 [112, 117, 116, 32, 102]) = (zeroS, false) := by rfl

theorem good_put {Y : ScriptLib5 L} (Q : LibIs Y) : goodL Y [112, 117, 116, 32, 102, 32, 48, 32, 54, 99, 54, 53, 55, 52] = some ⟨0, [102], [108, 101, 116], 0⟩ := by
  have hw : wordsA Y.itoaA ⟨0, [102], [108, 101, 116], 0⟩ = [[112, 117, 116], [102], [48], [54, 99, 54, 53, 55, 52]] := by
    show [_, _, Y.itoaA 0, _] = _
    rw [Q.itoa, itoa0]
    rfl
  have hs : stepA Y.idxD Y.atoiA (splitA 32 [112, 117, 116, 32, 102, 32, 48, 32, 54, 99, 54, 53, 55, 52]) = (⟨0, [102], [108, 101, 116], 0⟩, true) := by rw [Q.idx, Q.atoi]; exact step_put
  have hs' : stepA Y.idxD Y.atoiA [[112, 117, 116], [102], [48], [54, 99, 54, 53, 55, 52]] = (⟨0, [102], [108, 101, 116], 0⟩, true) := hs
  have hc : checkA Y.toScriptLib4 ⟨0, [102], [108, 101, 116], 0⟩ = 0 := by
    unfold checkA
    rw [hw, hs']
    rfl
  unfold goodL
  rw [hs]
  dsimp only
  rw [hw, hc]
  rfl
theorem good_none {Y : ScriptLib5 L} (Q : LibIs Y) : goodL Y [112, 117, 116, 32, 102] = none := by
  unfold goodL
  rw [Q.idx, Q.atoi, step_none]
  rfl

theorem alive1 {Y : ScriptLib5 L} (Q : LibIs Y) : parseA Y [112, 117, 116, 32, 102, 32, 48, 32, 54, 99, 54, 53, 55, 52, 10] = .inl [⟨0, [102], [108, 101, 116], 0⟩] := by
  have := parseA_line Y [112, 117, 116, 32, 102, 32, 48, 32, 54, 99, 54, 53, 55, 52] [] (by decide)
  rw [good_put Q] at this
  exact this
theorem alive2 {Y : ScriptLib5 L} (Q : LibIs Y) : parseA Y [112, 117, 116, 32, 102, 10] = .inr 1 := by
  have := parseA_line Y [112, 117, 116, 32, 102] [] (by decide)
  rw [good_none Q] at this
  exact this

theorem alive21_spec (F : ScriptFns T) (Q : LibIs F.Y) (h5 : T.has 5 c_5) : Pure T.L 5 [] (.bool true) := by
  have p1 := parse_spec F [112, 117, 116, 32, 102, 32, 48, 32, 54, 99, 54, 53, 55, 52, 10] (by decide)
  have p2 := parse_spec F [112, 117, 116, 32, 102, 10] (by decide)
  rw [show parseF F.Y _ [112, 117, 116, 32, 102, 32, 48, 32, 54, 99, 54, 53, 55, 52, 10] = _ from alive1 Q] at p1
  rw [show parseF F.Y _ [112, 117, 116, 32, 102, 10] = _ from alive2 Q] at p2
  refine Pure.run (fun y hy => by cases hy) (.bool _) (acallsF h5 (by simp [c_5]) ?_)
  conv => whnf
  refine p1.to ?_
  conv => whnf
  refine p2.to ?_
  conv => whnf
  refine ⟨by decide, rfl, ?_⟩
  conv => whnf
  refine ⟨by decide, ?_⟩
  conv => whnf
  exact ret_weak (Weak.refl _)

theorem count_take {s pre : List UInt8} {p : List UInt8} (hp : pre = p ++ [10]) {j : Nat} (hj : j < pre.length) : (pre.take j).count 10 + 1 ≤ pre.count 10 := by
  subst hp
  simp only [List.length_append, List.length_cons, List.length_nil] at hj
  rw [List.take_append_of_le_length (by omega), List.count_append]
  have : (p.take j).count 10 ≤ p.count 10 := (List.take_sublist j p).count_le 10
  simp
  omega

set_option maxHeartbeats 1000000 in
theorem scriptParses_spec (F : ScriptFns T) (Q : LibIs F.Y) (h5 : T.has 5 c_5) (h325 : T.has 325 c_325) (s : List UInt8) : Pure T.L 325 [.str s] (.bool true) := by
  refine Pure.run (fun y hy => by simp only [List.mem_singleton] at hy; subst hy; exact .str s) (.bool _) (acallsF h325 (by simp [c_325]) ?_)
  have hal := alive21_spec F Q h5
  conv => whnf
  refine hal.to ?_
  conv => whnf
  cases hlen : decide ((s.length : Int) > 3000)
  rotate_left
  · conv => whnf
    exact ret_weak (Weak.refl _)
  have hl : s.length ≤ 3000 := by simp at hlen; omega
  clear hlen
  have hparse := parse_spec F s (by omega)
  rw [show parseF F.Y s.length s = parseA F.Y s from rfl] at hparse
  conv => whnf
  refine hparse.to ?_
  cases hp : parseA F.Y s with
  | inl l =>
    obtain ⟨e1, e2, e3, e4⟩ := parse_print F.Y s.length s l (Nat.le_refl _) (by omega) hp
    have hprint := print_spec F l e2 (by rw [e3]; omega) (by omega)
    rw [e1] at hprint
    conv => whnf
    refine hprint.to ?_
    conv => whnf
    rw [show (s == s) = true from by simp]
    conv => whnf
    exact ret_weak (Weak.refl _)
  | inr n =>
    obtain ⟨pre, bad, post, e1, e2, e3, ⟨l, e4, e5⟩, e6, e7⟩ := parse_bad F.Y s.length s n (Nat.le_refl _) hp
    have hn : n ≤ s.length + 1 := by
      have : pre.count 10 ≤ pre.length := List.count_le_length
      have : s.length = pre.length + bad.length + post.length := by rw [e1]; simp; omega
      omega
    have hsl : s.length = pre.length + bad.length + post.length := by rw [e1]; simp; omega
    have hbne : bad ≠ [] := by
      rcases e7 with ⟨b, rfl, _⟩ | ⟨_, h, _⟩
      · simp
      · exact h
    have hbl : 0 < bad.length := List.length_pos_iff.2 hbne
    conv => whnf
    rw [show decide (((([] : List StepA).length + n : Nat) : Int) < 1) = false from by simp; omega]
    conv => whnf
    have eN : ((([] : List StepA).length + n : Nat) : Int) = ((n : Nat) : Int) := by simp
    intro I hI hG
    have key : ∀ (d j : Nat) (e : Env), pre.length - j = d → j ≤ pre.length → I (setL e [(0, .str s), (4, .int .i64 ((([] : List StepA).length + n : Nat) : Int)), (8, .int .i64 j), (9, .int .i64 (((pre.take j).count 10 + 1 : Nat) : Int))]) [] := by
      intro d
      induction d with
      | succ d ih =>
        intro j e hd hj
        have hlt : j < pre.length := by omega
        obtain ⟨p, hp⟩ : ∃ p, pre = p ++ [10] := by
          rcases e2 with rfl | h
          · simp at hlt
          · exact h
        have hc := count_take (s := s) hp hlt
        have hget : s[((j : Nat) : Int).toNat]? = some pre[j] := by
          rw [e1, Int.toNat_natCast, List.append_assoc, List.getElem?_append_left hlt]; simp
        have hcs : (pre.take (j + 1)).count 10 = (pre.take j).count 10 + if pre[j] = 10 then 1 else 0 := by
          rw [List.take_succ_eq_append_getElem hlt, List.count_append, List.count_singleton]
          simp
        generalize pre[j] = c at hget hcs
        apply hI
        conv => whnf
        rw [show decide ((j : Int) < (s.length : Int)) = true from by simp; omega]
        conv => whnf
        rw [show decide ((((pre.take j).count 10 + 1 : Nat) : Int) < (([] : List StepA).length + n : Nat)) = true from by simp; omega]
        conv => whnf
        refine step_idx (by omega) hget ?_
        conv => whnf
        cases h10 : ((c.toNat : Int) == 10)
        · have e10 : c ≠ 10 := fun e => by subst e; cases h10
          rw [if_neg e10] at hcs
          conv => whnf
          refine inv_of [(0, .str s), (4, .int .i64 ((([] : List StepA).length + n : Nat) : Int)), (8, .int .i64 ((j + 1 : Nat) : Int)), (9, .int .i64 (((pre.take (j + 1)).count 10 + 1 : Nat) : Int))] ⟨rfl, rfl, add1 (by omega), by rw [hcs]; rfl, trivial⟩ (ih (j + 1) _ (by omega) (by omega))
        · have e10 : c = 10 := by
            have := (u8_beq c 10).symm.trans h10
            simpa using this
          rw [if_pos e10] at hcs
          conv => whnf
          refine inv_of [(0, .str s), (4, .int .i64 ((([] : List StepA).length + n : Nat) : Int)), (8, .int .i64 ((j + 1 : Nat) : Int)), (9, .int .i64 (((pre.take (j + 1)).count 10 + 1 : Nat) : Int))] ⟨rfl, rfl, add1 (by omega), by rw [hcs]; exact add1 (by omega), trivial⟩ (ih (j + 1) _ (by omega) (by omega))
      | zero =>
        intro j e hd hj
        obtain rfl : j = pre.length := by omega
        rw [List.take_length]
        apply hI
        conv => whnf
        rw [show decide ((pre.length : Int) < (s.length : Int)) = true from by simp; omega]
        conv => whnf
        rw [show decide (((pre.count 10 + 1 : Nat) : Int) < (([] : List StepA).length + n : Nat)) = false from by simp; omega]
        conv => whnf
        clear hI hG I
        intro I hI hG
        obtain ⟨b, hb10, hbb⟩ : ∃ b : List UInt8, (10 : UInt8) ∉ b ∧ (bad = b ++ [10] ∨ (bad = b ∧ post = [])) := by
          rcases e7 with ⟨b, h1, h2⟩ | ⟨h1, _, h2⟩
          · exact ⟨b, h2, .inl h1⟩
          · exact ⟨bad, h1, .inr ⟨rfl, h2⟩⟩
        have hble : b.length ≤ bad.length := by rcases hbb with h | ⟨h, _⟩ <;> rw [h] <;> simp
        have key2 : ∀ (d i : Nat) (e : Env), b.length - i = d → i ≤ b.length → I (setL e [(0, .str s), (4, .int .i64 ((([] : List StepA).length + n : Nat) : Int)), (8, .int .i64 ((pre.length : Nat) : Int)), (9, .int .i64 ((pre.count 10 + 1 : Nat) : Int)), (10, .int .i64 ((pre.length + i : Nat) : Int))]) [] := by
          intro d
          induction d with
          | succ d ih =>
            intro i e hd hi
            have hlt : i < b.length := by omega
            have hget : s[((pre.length + i : Nat) : Int).toNat]? = some b[i] := by
              rw [e1, Int.toNat_natCast, List.append_assoc, List.getElem?_append_right (by omega), show pre.length + i - pre.length = i from by omega]
              rcases hbb with h | ⟨h, _⟩
              · rw [h, List.append_assoc, List.getElem?_append_left hlt]; simp
              · rw [h, List.getElem?_append_left hlt]; simp
            have hne : ((b[i].toNat : Int) != 10) = true := by
              have h1 : b[i] ≠ 10 := fun e => hb10 (e ▸ List.getElem_mem hlt)
              have h2 := (u8_beq b[i] 10)
              have h3 : (b[i] == 10) = false := by simpa using h1
              rw [h3] at h2
              show (!((b[i].toNat : Int) == 10)) = true
              rw [show ((b[i].toNat : Int) == 10) = false from h2]
              rfl
            apply hI
            conv => whnf
            rw [show decide (((pre.length + i : Nat) : Int) < (s.length : Int)) = true from by simp; omega]
            conv => whnf
            refine step_idx (by omega) hget ?_
            conv => whnf
            rw [hne]
            conv => whnf
            refine inv_of [(0, .str s), (4, .int .i64 ((([] : List StepA).length + n : Nat) : Int)), (8, .int .i64 ((pre.length : Nat) : Int)), (9, .int .i64 ((pre.count 10 + 1 : Nat) : Int)), (10, .int .i64 ((pre.length + (i + 1) : Nat) : Int))] ⟨rfl, rfl, rfl, rfl, add1 (by omega), trivial⟩ (ih (i + 1) _ (by omega) (by omega))
          | zero =>
            intro i e hd hi
            obtain rfl : i = b.length := by omega
            have hpp := parse_spec F pre (by omega)
            have hpb := parse_spec F bad (by omega)
            rw [show parseF F.Y pre.length pre = .inl l from e4] at hpp
            rw [show parseF F.Y bad.length bad = .inr 1 from e6] at hpb
            have ht1 : (s.take (((pre.length : Nat) : Int)).toNat).drop 0 = pre := by rw [e1, Int.toNat_natCast]; simp
            have ht2 : (s.take (((pre.length + bad.length : Nat) : Int)).toNat).drop (((pre.length : Nat) : Int)).toNat = bad := by
              rw [e1, Int.toNat_natCast, Int.toNat_natCast, List.take_append_of_le_length (by simp), List.take_of_length_le (by simp)]; simp
            have fin : ∀ (r : AVal), r = .bool true → ∃ z, ARet.ret r = .ret z ∧ Weak T.L z (.bool true) := fun r h => by subst h; exact ret_weak (Weak.refl _)
            have hlast : (((pre.count 10 + 1 : Nat) : Int) == ((([] : List StepA).length + n : Nat) : Int)) = true := by rw [← e3]; simp
            have hnm : IntKind.i64.wrap (((([] : List StepA).length + n : Nat) : Int) - 1) = ((n - 1 : Nat) : Int) := by
              rw [IntWalk.i64_in _ (by simp; omega)]; simp; omega
            apply hI
            rcases hbb with hbb | ⟨hbb, hpost⟩
            · have hbl2 : bad.length = b.length + 1 := by rw [hbb]; simp
              have hget : s[((pre.length + b.length : Nat) : Int).toNat]? = some 10 := by
                rw [e1, Int.toNat_natCast, List.append_assoc, List.getElem?_append_right (by omega), show pre.length + b.length - pre.length = b.length from by omega, hbb, List.append_assoc]
                simp
              conv => whnf
              rw [show decide (((pre.length + b.length : Nat) : Int) < (s.length : Int)) = true from by simp; omega]
              conv => whnf
              refine step_idx (by omega) hget ?_
              conv => whnf
              rw [show decide (((pre.length + b.length : Nat) : Int) < (s.length : Int)) = true from by simp; omega]
              conv => whnf
              rw [show IntKind.i64.wrap (((pre.length + b.length : Nat) : Int) + 1) = ((pre.length + bad.length : Nat) : Int) from by rw [IntWalk.i64_in _ (by omega)]; omega]
              conv => whnf
              refine ⟨Nat.zero_le _, by simp; omega, ?_⟩
              rw [ht1]
              conv => whnf
              refine hpp.to ?_
              conv => whnf
              refine ⟨by omega, by omega, ?_⟩
              rw [ht2]
              conv => whnf
              refine hpb.to ?_
              conv => whnf
              rw [hlast]
              conv => whnf
              rw [hnm]
              rw [show ((((List.map StepA.av (([] : List StepA) ++ l)).length : Nat) : Int) == ((n - 1 : Nat) : Int)) = true from by
                rw [List.length_map, List.nil_append, show l.length = n - 1 from by omega]; simp]
              conv => whnf
              exact fin _ rfl
            · subst hbb
              have hpl : s.length = pre.length + bad.length := by rw [hsl, hpost]; simp
              conv => whnf
              rw [show decide (((pre.length + bad.length : Nat) : Int) < (s.length : Int)) = false from by simp; omega]
              conv => whnf
              rw [show decide (((pre.length + bad.length : Nat) : Int) < (s.length : Int)) = false from by simp; omega]
              conv => whnf
              refine ⟨Nat.zero_le _, by simp; omega, ?_⟩
              rw [ht1]
              conv => whnf
              refine hpp.to ?_
              conv => whnf
              refine ⟨by omega, by omega, ?_⟩
              rw [ht2]
              conv => whnf
              refine hpb.to ?_
              conv => whnf
              rw [hlast]
              conv => whnf
              rw [hnm]
              rw [show ((((List.map StepA.av (([] : List StepA) ++ l)).length : Nat) : Int) == ((n - 1 : Nat) : Int)) = true from by
                rw [List.length_map, List.nil_append, show l.length = n - 1 from by omega]; simp]
              conv => whnf
              exact fin _ rfl
        exact inv_of [(0, .str s), (4, .int .i64 ((([] : List StepA).length + n : Nat) : Int)), (8, .int .i64 ((pre.length : Nat) : Int)), (9, .int .i64 ((pre.count 10 + 1 : Nat) : Int)), (10, .int .i64 ((pre.length + 0 : Nat) : Int))] ⟨rfl, rfl, rfl, rfl, rfl, trivial⟩ (key2 b.length 0 _ (by omega) (by omega))
    exact inv_of [(0, .str s), (4, .int .i64 ((([] : List StepA).length + n : Nat) : Int)), (8, .int .i64 ((0 : Nat) : Int)), (9, .int .i64 (((pre.take 0).count 10 + 1 : Nat) : Int))] ⟨rfl, rfl, rfl, rfl, trivial⟩ (key pre.length 0 _ (by omega) (by omega))

end Go.Ag

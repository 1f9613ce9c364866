/- Package cupelref04: the document's tokens. -/
import Derived.Test.YtljfbnbmcemdcaaGreatDoorAgSlot
import Derived.Test.YtljfbnbmcemdcaaGreatDoorAgCRef
set_option linter.unusedVariables false
namespace Go.Ag
open Go

variable {T : Tab} {L : Lnk}
abbrev Bytes := List UInt8

def inA (c : UInt8) (s : Bytes) : Bool := s.any (· == c)

theorem str_at {s : Bytes} {k : Nat} (h : k < s.length) : s[((k : Nat) : Int).toNat]? = some s[k] := by rw [Int.toNat_natCast]; exact List.getElem?_eq_getElem h
theorem step_at {s : Bytes} {k : Nat} {P : UInt8 → Prop} (h : k < s.length) (hp : P s[k]) : 0 ≤ (k : Int) ∧ (match s[((k : Nat) : Int).toNat]? with
    | some c => P c
    | none => False) := ⟨by omega, by rw [str_at h]; exact hp⟩
theorem lt_true {a b : Nat} (h : a < b) : decide ((a : Int) < (b : Int)) = true := by simp; omega
theorem lt_false {a b : Nat} (h : b ≤ a) : decide ((a : Int) < (b : Int)) = false := by simp; omega
theorem low_strA {n : Nat} {s : Bytes} : Low n (.str s) := .str s

theorem in_spec (h79 : T.has 79 c_79) (c : UInt8) (s : Bytes) (hs : s.length < 2 ^ 62) : Pure T.L 79 [.int .u8 c.toNat, .str s] (.bool (inA c s)) := by
  refine Pure.run (fun y hy => by simp only [List.mem_cons, List.not_mem_nil, or_false] at hy; rcases hy with rfl | rfl <;> constructor) (.bool _) (acallsF h79 (by simp [c_79]) ?_)
  conv => whnf
  intro I hI hG
  have key : ∀ (d k : Nat) (e : Env), s.length - k = d → k ≤ s.length → inA c s = inA c (s.drop k) → I (setL e [(0, .int .u8 c.toNat), (1, .str s), (5, .int .i64 k)]) [] := by
    intro d
    induction d with
    | zero =>
      intro k e hd hk hv
      obtain rfl : k = s.length := by omega
      apply hI
      conv => whnf
      rw [lt_false (Nat.le_refl _)]
      conv => whnf
      rw [hv, List.drop_length]
      exact ret_weak (Weak.refl _)
    | succ d ih =>
      intro k e hd hk hv
      have hlt : k < s.length := by omega
      apply hI
      conv => whnf
      rw [lt_true hlt]
      conv => whnf
      refine step_at hlt ?_
      conv => whnf
      rw [u8_beq, List.drop_eq_getElem_cons hlt] at *
      simp only [inA, List.any_cons] at hv
      cases hc : (s[k] == c)
      · conv => whnf
        refine inv_of [(0, .int .u8 c.toNat), (1, .str s), (5, .int .i64 ((k + 1 : Nat) : Int))] ⟨rfl, rfl, add1 (by omega), trivial⟩ (ih (k + 1) _ (by omega) (by omega) ?_)
        rw [hc, Bool.false_or] at hv
        exact hv
      · conv => whnf
        rw [hc, Bool.true_or] at hv
        rw [show inA c s = true from hv]
        exact ret_weak (Weak.refl _)
  exact inv_of [(0, .int .u8 c.toNat), (1, .str s), (5, .int .i64 0)] ⟨rfl, rfl, rfl, trivial⟩ (key s.length 0 _ rfl (by omega) rfl)

/-! While and Until -/
def spanA (p : UInt8 → Bool) (src : Bytes) (from_ : Nat) : Nat := from_ + ((src.drop from_).takeWhile p).length
def whileA (src : Bytes) (from_ : Nat) (some : Bytes) : Nat := spanA (inA · some) src from_
def untilA (src : Bytes) (from_ : Nat) (some : Bytes) : Nat := spanA (fun c => !inA c some) src from_

theorem span_yes {p : UInt8 → Bool} {src : Bytes} {k : Nat} (h : k < src.length) (hp : p src[k] = true) : spanA p src k = spanA p src (k + 1) := by
  unfold spanA
  rw [List.drop_eq_getElem_cons h, List.takeWhile_cons_of_pos hp]
  simp; omega
theorem span_no {p : UInt8 → Bool} {src : Bytes} {k : Nat} (h : k < src.length) (hp : p src[k] = false) : spanA p src k = k := by
  unfold spanA
  rw [List.drop_eq_getElem_cons h, List.takeWhile_cons_of_neg (by simp [hp])]
  simp
theorem span_end {p : UInt8 → Bool} {src : Bytes} {k : Nat} (h : src.length ≤ k) : spanA p src k = k := by
  unfold spanA
  rw [List.drop_eq_nil_of_le h]
  simp
theorem span_le {p : UInt8 → Bool} {src : Bytes} {k : Nat} (h : k ≤ src.length) : k ≤ spanA p src k ∧ spanA p src k ≤ src.length := by
  unfold spanA
  have := (List.takeWhile_prefix p (l := src.drop k)).length_le
  simp only [List.length_drop] at this
  omega
theorem span_lt {p : UInt8 → Bool} {src : Bytes} {k : Nat} (h : k < src.length) (hp : p src[k] = true) : k < spanA p src k := by
  rw [span_yes h hp]
  have := (span_le (p := p) (src := src) (k := k + 1) (by omega)).1
  omega

theorem while_spec (h79 : T.has 79 c_79) (h81 : T.has 81 c_81) (src some : Bytes) (fr : Nat) (hs : src.length < 2 ^ 62) (hm : some.length < 2 ^ 62) (hf : fr ≤ src.length) :
    Pure T.L 81 [.str src, .int .i64 fr, .str some] (.int .i64 (whileA src fr some)) := by
  refine Pure.run (fun y hy => by simp only [List.mem_cons, List.not_mem_nil, or_false] at hy; rcases hy with rfl | rfl | rfl <;> constructor) (.int _ _) (acallsF h81 (by simp [c_81]) ?_)
  conv => whnf
  intro I hI hG
  have key : ∀ (d k : Nat) (e : Env), src.length - k = d → k ≤ src.length → whileA src fr some = whileA src k some → I (setL e [(0, .str src), (1, .int .i64 k), (2, .str some)]) [] := by
    intro d
    induction d with
    | zero =>
      intro k e hd hk hv
      obtain rfl : k = src.length := by omega
      apply hI
      conv => whnf
      rw [lt_false (Nat.le_refl _)]
      conv => whnf
      rw [hv, whileA, span_end (Nat.le_refl _)]
      exact ret_weak (Weak.refl _)
    | succ d ih =>
      intro k e hd hk hv
      have hlt : k < src.length := by omega
      apply hI
      conv => whnf
      rw [lt_true hlt]
      conv => whnf
      refine step_at hlt ?_
      conv => whnf
      refine (in_spec h79 src[k] some hm).to ?_
      conv => whnf
      cases hc : inA src[k] some
      · conv => whnf
        rw [hv, whileA, span_no hlt hc]
        exact ret_weak (Weak.refl _)
      · conv => whnf
        refine inv_of [(0, .str src), (1, .int .i64 ((k + 1 : Nat) : Int)), (2, .str some)] ⟨rfl, add1 (by omega), rfl, trivial⟩ (ih (k + 1) _ (by omega) (by omega) ?_)
        rw [hv, whileA, span_yes hlt hc]; rfl
  exact inv_of [(0, .str src), (1, .int .i64 fr), (2, .str some)] ⟨rfl, rfl, rfl, trivial⟩ (key _ fr _ rfl hf rfl)

theorem until_spec (h79 : T.has 79 c_79) (h80 : T.has 80 c_80) (src some : Bytes) (fr : Nat) (hs : src.length < 2 ^ 62) (hm : some.length < 2 ^ 62) (hf : fr ≤ src.length) :
    Pure T.L 80 [.str src, .int .i64 fr, .str some] (.int .i64 (untilA src fr some)) := by
  refine Pure.run (fun y hy => by simp only [List.mem_cons, List.not_mem_nil, or_false] at hy; rcases hy with rfl | rfl | rfl <;> constructor) (.int _ _) (acallsF h80 (by simp [c_80]) ?_)
  conv => whnf
  intro I hI hG
  have key : ∀ (d k : Nat) (e : Env), src.length - k = d → k ≤ src.length → untilA src fr some = untilA src k some → I (setL e [(0, .str src), (1, .int .i64 k), (2, .str some)]) [] := by
    intro d
    induction d with
    | zero =>
      intro k e hd hk hv
      obtain rfl : k = src.length := by omega
      apply hI
      conv => whnf
      rw [lt_false (Nat.le_refl _)]
      conv => whnf
      rw [hv, untilA, span_end (Nat.le_refl _)]
      exact ret_weak (Weak.refl _)
    | succ d ih =>
      intro k e hd hk hv
      have hlt : k < src.length := by omega
      apply hI
      conv => whnf
      rw [lt_true hlt]
      conv => whnf
      refine step_at hlt ?_
      conv => whnf
      refine (in_spec h79 src[k] some hm).to ?_
      conv => whnf
      cases hc : inA src[k] some
      · conv => whnf
        refine inv_of [(0, .str src), (1, .int .i64 ((k + 1 : Nat) : Int)), (2, .str some)] ⟨rfl, add1 (by omega), rfl, trivial⟩ (ih (k + 1) _ (by omega) (by omega) ?_)
        rw [hv, untilA, span_yes hlt (by simp [hc])]; rfl
      · conv => whnf
        rw [hv, untilA, span_no hlt (by simp [hc])]
        exact ret_weak (Weak.refl _)
  exact inv_of [(0, .str src), (1, .int .i64 fr), (2, .str some)] ⟨rfl, rfl, rfl, trivial⟩ (key _ fr _ rfl hf rfl)

/-! Word -/
def wordsL : List Bytes := [[117, 115, 101], [116, 121, 112, 101], [108, 101, 116], [105, 110], [105, 102], [116, 104, 101, 110], [101, 108, 115, 101], [102, 117, 110], [116, 114, 117, 101], [102, 97, 108, 115, 101], [105, 110, 116], [98, 111, 111, 108], [116, 101, 120, 116]]
def wordA (s : Bytes) : Bool := wordsL.any (· == s)
def strsL (l : List Bytes) : List AVal := l.map .str

theorem word_spec (h82 : T.has 82 c_82) (s : Bytes) : Pure T.L 82 [.str s] (.bool (wordA s)) := by
  refine Pure.run (fun y hy => by simp only [List.mem_cons, List.not_mem_nil, or_false] at hy; rcases hy with rfl; constructor) (.bool _) (acallsF h82 (by simp [c_82]) ?_)
  conv => whnf
  refine ⟨fun p hp => by simp only [List.mem_cons, List.not_mem_nil, or_false] at hp; rcases hp with rfl | rfl | rfl | rfl | rfl | rfl | rfl | rfl | rfl | rfl | rfl | rfl | rfl <;> exact ⟨rfl, rfl⟩, ?_⟩
  conv => whnf
  intro I hI hG
  have key : ∀ (d k : Nat) (e : Env), wordsL.length - k = d → k ≤ wordsL.length → wordA s = (wordsL.drop k).any (· == s) → I (setL e [(0, .str s), (3, .lst (strsL wordsL) .full), (4, .int .i64 k)]) [] := by
    intro d
    induction d with
    | zero =>
      intro k e hd hk hv
      obtain rfl : k = wordsL.length := by omega
      apply hI
      conv => whnf
      rw [hv, List.drop_length]
      exact ret_weak (Weak.refl _)
    | succ d ih =>
      intro k e hd hk hv
      have hlt : k < wordsL.length := by omega
      have hget : (strsL wordsL)[((k : Nat) : Int).toNat]? = some (.str wordsL[k]) := by
        rw [Int.toNat_natCast, strsL, List.getElem?_map, List.getElem?_eq_getElem hlt]; rfl
      apply hI
      conv => whnf
      rw [show decide ((k : Int) < ((strsL wordsL).length : Nat)) = true from lt_true (by simpa [strsL] using hlt)]
      conv => whnf
      refine ⟨by omega, ?_⟩
      rw [hget]
      refine ⟨rfl, ?_⟩
      conv => whnf
      rw [List.drop_eq_getElem_cons hlt, List.any_cons] at hv
      cases hc : (wordsL[k] == s)
      · conv => whnf
        refine inv_of [(0, .str s), (3, .lst (strsL wordsL) .full), (4, .int .i64 ((k + 1 : Nat) : Int))] ⟨rfl, rfl, add1 (by have : wordsL.length = 13 := rfl; omega), trivial⟩ (ih (k + 1) _ (by omega) (by omega) ?_)
        rw [hc, Bool.false_or] at hv
        exact hv
      · conv => whnf
        rw [hc, Bool.true_or] at hv
        rw [hv]
        exact ret_weak (Weak.refl _)
  exact inv_of [(0, .str s), (3, .lst (strsL wordsL) .full), (4, .int .i64 0)] ⟨rfl, rfl, rfl, trivial⟩ (key _ 0 _ rfl (by omega) rfl)

end Go.Ag

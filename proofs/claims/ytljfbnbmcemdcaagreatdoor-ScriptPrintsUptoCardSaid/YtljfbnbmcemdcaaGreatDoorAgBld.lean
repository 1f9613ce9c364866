/- strings.Builder: what its methods do to an abstract builder. -/
import Derived.Test.YtljfbnbmcemdcaaGreatDoorAgRun
set_option linter.unusedVariables false
namespace Go.Ag
open Go

variable {T : Tab} {L : Lnk}

structure BldLib (L : Lnk) : Prop where
  fresh : ∀ H id b, H[id]? = some (.cells [.nilptr, b] 50) → ACalls L 35 [.ptr id 0] H fun r H' => r = .ret (.tup []) ∧ H' = H.set id (.cells [.ptr id 0, b] 50)
  used : ∀ H id b, H[id]? = some (.cells [.ptr id 0, b] 50) → ACalls L 35 [.ptr id 0] H fun r H' => r = .ret (.tup []) ∧ H' = H

/-- A builder that holds these bytes, all of it at n or beyond. -/
def BldAt (n : Nat) (H : Heap) (id : Nat) (bs : List UInt8) : Prop :=
  n ≤ id ∧ ∃ p tk, H[id]? = some (.cells [p, .lst (byteL bs) tk] 50) ∧ (p = .nilptr ∨ p = .ptr id 0) ∧
    ((tk = .nil ∧ bs = []) ∨ ∃ tid, tk = .tail tid ∧ tid ≠ id ∧ n ≤ tid ∧ H[tid]? = some (.tail bs.length 6) ∧ bs ≠ [])

/-- The check that each method does first. -/
theorem BldAt.check (B : BldLib L) {n : Nat} {H : Heap} {id : Nat} {bs : List UInt8} (h : BldAt n H id bs) :
    ACalls L 35 [.ptr id 0] H fun r H' => r = .ret (.tup []) ∧ Keep n H H' ∧ n ≤ id ∧ ∃ tk, H'[id]? = some (.cells [.ptr id 0, .lst (byteL bs) tk] 50) ∧
      ((tk = .nil ∧ bs = []) ∨ ∃ tid, tk = .tail tid ∧ tid ≠ id ∧ n ≤ tid ∧ H'[tid]? = some (.tail bs.length 6) ∧ bs ≠ []) := by
  obtain ⟨hn, p, tk, h1, h2, h3⟩ := h
  rcases h2 with rfl | rfl
  · refine (B.fresh H id _ h1).mono fun r H' ⟨e1, e2⟩ => ?_
    subst e2
    refine ⟨e1, Keep.set hn _, hn, tk, get_set h1 _, ?_⟩
    rcases h3 with h3 | ⟨tid, e3, e4, e5, e6, e7⟩
    · exact .inl h3
    · exact .inr ⟨tid, e3, e4, e5, get_other e6 (Ne.symm e4) _, e7⟩
  · exact (B.used H id _ h1).mono fun r H' ⟨e1, e2⟩ => by subst e2; exact ⟨e1, Keep.refl _ _, hn, tk, h1, h3⟩

def c_51 : AFunc := (.mk 2 17 [(.tmp 4)] (.seq (.ops [(.mk (some 4) (.mv (.const .niliface)) none)]) (.seq (.ops [(.mk (some 5) (.mv (.tmp 0)) none), (.mk (some 6) (.call 35 [(.tmp 5)]) none)]) (.seq (.ops [(.mk (some 7) (.mv (.tmp 0)) none), (.mk (some 8) (.mv (.tmp 0)) none), (.mk (some 9) (.nilck (.tmp 8)) none), (.mk (some 10) (.faddr 1 (.tmp 9)) none), (.mk (some 11) (.load none (.tmp 10)) none), (.mk (some 12) (.mv (.tmp 1)) none), (.mk (some 13) (.lit 1 1 [] 1 [(0, (.tmp 12))]) none), (.mk (some 14) (.append 1 1 6 (.tmp 11) (.tmp 13)) none), (.mk (some 15) (.nilck (.tmp 7)) none), (.mk (some 16) (.faddr 1 (.tmp 15)) none), (.mk none (.store 1 (.tmp 16) (.tmp 14)) none)]) (.seq (.ops [(.mk (some 4) (.mv (.const .niliface)) none)]) .ret)))))
def c_19 : AFunc := (.mk 2 19 [(.tmp 4), (.tmp 5)] (.seq (.ops [(.mk (some 4) (.mv (.const (.int .i64 0))) none), (.mk (some 5) (.mv (.const .niliface)) none)]) (.seq (.ops [(.mk (some 6) (.mv (.tmp 0)) none), (.mk (some 7) (.call 35 [(.tmp 6)]) none)]) (.seq (.ops [(.mk (some 8) (.mv (.tmp 0)) none), (.mk (some 9) (.mv (.tmp 0)) none), (.mk (some 10) (.nilck (.tmp 9)) none), (.mk (some 11) (.faddr 1 (.tmp 10)) none), (.mk (some 12) (.load none (.tmp 11)) none), (.mk (some 13) (.mv (.tmp 1)) none), (.mk (some 14) (.appendS 1 6 (.tmp 12) (.tmp 13)) none), (.mk (some 15) (.nilck (.tmp 8)) none), (.mk (some 16) (.faddr 1 (.tmp 15)) none), (.mk none (.store 1 (.tmp 16) (.tmp 14)) none)]) (.seq (.ops [(.mk (some 17) (.mv (.tmp 1)) none), (.mk (some 18) (.lenS (.tmp 17)) none), (.mk (some 4) (.mv (.tmp 18)) none), (.mk (some 5) (.mv (.const .niliface)) none)]) .ret)))))
def c_21 : AFunc := (.mk 1 14 [(.tmp 2)] (.seq (.ops [(.mk (some 2) (.mv (.const (.str []))) none)]) (.seq (.draw [(.mk (some 3) (.mv (.tmp 0)) none), (.mk (some 4) (.nilck (.tmp 3)) none), (.mk (some 5) (.faddr 1 (.tmp 4)) none), (.mk (some 6) (.load none (.tmp 5)) none), (.mk (some 7) (.ssd (.tmp 6)) none), (.mk (some 8) (.mv (.tmp 0)) none), (.mk (some 9) (.nilck (.tmp 8)) none), (.mk (some 10) (.faddr 1 (.tmp 9)) none), (.mk (some 11) (.load none (.tmp 10)) none), (.mk (some 12) (.lenL (.tmp 11)) none)] [(.mk (some 13) (.ustr 6 (.tmp 7) (.tmp 12)) none), (.mk (some 2) (.mv (.tmp 13)) none)]) .ret)))

theorem BldAt.grown {n : Nat} {H1 H2 : Heap} {id : Nat} {bs cs : List UInt8} {tk tk' : Tok} (hg : Grown n 6 H1 H2) (ha : Acc n H2 (byteL bs ++ byteL cs) 6 tk') (hid : n ≤ id) (hne : cs ≠ [])
    (h : H1[id]? = some (.cells [.ptr id 0, .lst (byteL bs) tk] 50)) :
    Keep n H1 (H2.set id (.cells [.ptr id 0, .lst (byteL bs ++ byteL cs) tk'] 50)) ∧ BldAt n (H2.set id (.cells [.ptr id 0, .lst (byteL bs ++ byteL cs) tk'] 50)) id (bs ++ cs) := by
  have h2 := hg.2 id _ h (fun m => by simp)
  refine ⟨hg.1.trans (Keep.set hid _), hid, .ptr id 0, tk', ?_, .inr rfl, ?_⟩
  · rw [byteL_app]; exact get_set h2 _
  · rcases ha with ⟨_, e2⟩ | ⟨tid, e1, e2, e3⟩
    · exact absurd (List.eq_nil_of_length_eq_zero (by have := congrArg List.length e2; rw [List.length_append, byteL_len, byteL_len] at this; simp at this; simp [this.2])) hne
    · have hne2 : tid ≠ id := fun e => by subst e; rw [h2] at e3; cases e3
      refine .inr ⟨tid, e1, hne2, e2, ?_, by simp [hne]⟩
      rw [get_other e3 (Ne.symm hne2), List.length_append, byteL_len, byteL_len, List.length_append]

theorem acc_of {n : Nat} {H : Heap} {id : Nat} {bs : List UInt8} {tk : Tok} (h : (tk = .nil ∧ bs = []) ∨ ∃ tid, tk = .tail tid ∧ tid ≠ id ∧ n ≤ tid ∧ H[tid]? = some (.tail bs.length 6) ∧ bs ≠ []) : Acc n H (byteL bs) 6 tk := by
  rcases h with ⟨e1, e2⟩ | ⟨tid, e1, _, e2, e3, _⟩
  · exact .inl ⟨e1, by rw [e2]; rfl⟩
  · exact .inr ⟨tid, e1, e2, by rw [byteL_len]; exact e3⟩

theorem WriteByte_spec (h51 : T.has 51 c_51) (B : BldLib T.L) {n : Nat} {H : Heap} {id : Nat} {bs : List UInt8} (c : UInt8) (hlen : bs.length + 1 ≤ 2 ^ 46) (hn : n ≤ H.length) (h : BldAt n H id bs) :
    ACalls T.L 51 [.ptr id 0, .int .u8 c.toNat] H fun r H' => r = .ret .niliface ∧ Keep n H H' ∧ BldAt n H' id (bs ++ [c]) := by
  refine acallsF h51 (by simp [c_51]) ?_
  conv => whnf
  refine (h.check B).mono fun r H1 ⟨e1, hk, hid, tk, h1, h2⟩ => ?_
  subst e1
  have hn1 : n ≤ H1.length := Nat.le_trans hn hk.1
  conv => whnf
  refine step_load (load_at (off := 1) h1 rfl) ?_
  conv => whnf
  refine ⟨fun p hp => ?_, ?_⟩
  · simp only [List.mem_singleton] at hp; subst hp; exact ⟨rfl, rfl⟩
  conv => whnf
  refine app_acc (n := n) (xs := byteL bs) (ys := byteL [c]) (byteL_sized bs) (byteL_sized [c]) (by rw [byteL_len, byteL_len]; simp; omega) (by rw [byteL_len, byteL_len]; simp; omega) (by simp [byteL]) hn1 (acc_of h2) fun tk' H2 hg ha => ?_
  conv => whnf
  refine step_store (ok1 rfl) (store_at (off := 1) (k := 1) (hg.2 id _ h1 (fun m => by simp)) rfl (by simp)) ?_
  conv => whnf
  obtain ⟨q1, q2⟩ := BldAt.grown hg ha hid (by simp) h1
  exact ⟨rfl, hk.trans q1, q2⟩

theorem WriteString_spec (h19 : T.has 19 c_19) (B : BldLib T.L) {n : Nat} {H : Heap} {id : Nat} {bs : List UInt8} (s : List UInt8) (hne : s ≠ []) (hlen : bs.length + s.length ≤ 2 ^ 46) (hn : n ≤ H.length) (h : BldAt n H id bs) :
    ACalls T.L 19 [.ptr id 0, .str s] H fun r H' => r = .ret (.tup [.int .i64 s.length, .niliface]) ∧ Keep n H H' ∧ BldAt n H' id (bs ++ s) := by
  refine acallsF h19 (by simp [c_19]) ?_
  conv => whnf
  refine (h.check B).mono fun r H1 ⟨e1, hk, hid, tk, h1, h2⟩ => ?_
  subst e1
  have hn1 : n ≤ H1.length := Nat.le_trans hn hk.1
  conv => whnf
  refine step_load (load_at (off := 1) h1 rfl) ?_
  conv => whnf
  refine appS_acc (n := n) (xs := byteL bs) (y := s) (byteL_sized bs) (by rw [byteL_len]; simp; omega) (by rw [byteL_len]; simp; omega) hne hn1 (acc_of h2) fun tk' H2 hg ha => ?_
  conv => whnf
  refine step_store (ok1 rfl) (store_at (off := 1) (k := 1) (hg.2 id _ h1 (fun m => by simp)) rfl (by simp)) ?_
  conv => whnf
  obtain ⟨q1, q2⟩ := BldAt.grown hg ha hid hne h1
  exact ⟨rfl, hk.trans q1, q2⟩

/-- The builder's bytes; after it nobody may write (the builder is let go). -/
theorem String_spec (h21 : T.has 21 c_21) {n : Nat} {H : Heap} {id : Nat} {bs : List UInt8} (hlen : bs.length ≤ 2 ^ 46) (hn : n ≤ H.length) (h : BldAt n H id bs) :
    ACalls T.L 21 [.ptr id 0] H fun r H' => r = .ret (.str bs) ∧ Keep n H H' := by
  obtain ⟨hid, p, tk, h1, _, h2⟩ := h
  refine acallsF h21 (by simp [c_21]) ?_
  conv => whnf
  refine soft_load (ptr_ok h1) (load_at (off := 1) h1 rfl) ?_
  conv => whnf
  refine ⟨?_, ?_⟩
  · rcases h2 with ⟨rfl, _⟩ | ⟨tid, rfl, _, _, _, hne⟩
    · exact .inr rfl
    · exact .inl fun e0 => hne (List.eq_nil_of_length_eq_zero (by rw [← byteL_len, e0]; rfl))
  conv => whnf
  refine soft_load (ptr_ok h1) (load_at (off := 1) h1 rfl) ?_
  conv => whnf
  refine ⟨rfl, by rw [byteL_len]; exact hlen, ?_⟩
  rw [bytesA_of]
  rcases h2 with ⟨rfl, rfl⟩ | ⟨tid, rfl, _, h3, h4, hne⟩
  · conv => whnf
    exact ⟨rfl, Keep.refl _ _⟩
  · dsimp only
    rw [h4]
    refine ⟨⟨by rw [byteL_len], rfl, fun e0 => hne (List.eq_nil_of_length_eq_zero (by rw [← byteL_len, e0]; rfl))⟩, ?_⟩
    conv => whnf
    exact ⟨rfl, Keep.set h3 _⟩

end Go.Ag

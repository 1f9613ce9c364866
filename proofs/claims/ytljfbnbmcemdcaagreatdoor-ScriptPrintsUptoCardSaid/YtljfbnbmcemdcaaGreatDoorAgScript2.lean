/- Package script: words, step, Check. -/
import Derived.Test.YtljfbnbmcemdcaaGreatDoorAgScript
set_option linter.unusedVariables false
namespace Go.Ag
open Go

variable {T : Tab} {L : Lnk}

structure StepA where
  kind : Int
  name : List UInt8
  text : List UInt8
  n : Int
  deriving DecidableEq

def StepA.cells (x : StepA) : List AVal := [.int .i64 x.kind, .str x.name, .str x.text, .int .i64 x.n]
def StepA.av (x : StepA) : AVal := .agg x.cells

def wordsA (F : Int → List UInt8) (x : StepA) : List (List UInt8) :=
  let w := namesA.getD x.kind.toNat []
  if x.kind = 0 then [w, x.name, F x.n, hexA x.text] else if x.kind = 2 then [w, F x.n] else if x.kind = 6 then [w] else [w, x.name]

/-- More of the library. -/
structure ScriptLib2 (L : Lnk) extends ScriptLib L where
  itoa : ∀ n : Int, -9223372036854775808 ≤ n → n ≤ 9223372036854775807 → Pure L 32 [.int .i64 n] (.str (itoaA n))

theorem sized_strs (l : List (List UInt8)) : Sized 1 (strs l) := fun x hx => by
  simp only [strs, List.mem_map] at hx
  obtain ⟨s, _, rfl⟩ := hx
  exact ⟨rfl, rfl⟩

theorem step_iaddr {k : Nat} {xs : List AVal} {n : Int} {y : AVal} {P : AVal → Prop} (h0 : 0 ≤ n) (h : xs[n.toNat]? = some y) (hk : y.cells.length = k) (hp : P y) : 0 ≤ n ∧ (match xs[n.toNat]? with
    | some y => y.cells.length = k ∧ P y
    | none => False) := ⟨h0, by rw [h]; exact ⟨hk, hp⟩⟩

theorem load_lptr (H : Heap) (c : AVal) : loadAt H none (.lptr [c]) = some c := rfl

theorem words_spec (Y : ScriptLib2 T.L) (h16 : T.has 16 c_16) (h29 : T.has 29 c_29) (h33 : T.has 33 c_33) (h51 : T.has 51 c_51) (h21 : T.has 21 c_21) (x : StepA) (hk : 0 ≤ x.kind ∧ x.kind ≤ 6) (hn : -9223372036854775808 ≤ x.n ∧ x.n ≤ 9223372036854775807) (ht : x.text.length ≤ 2 ^ 40) :
    Pure T.L 16 [x.av] (.lst (strs (wordsA Y.itoaA x)) .none) := fun H => by
  obtain ⟨kind, name, text, n⟩ := x
  dsimp only at hk hn ht
  refine ACalls.pure (acallsF h16 (by simp [c_16]) ?_) (low_strs _ _)
  conv => whnf
  refine ⟨rfl, ?_⟩
  conv => whnf
  have hx : (H ++ [AObj.cells [.int .i64 kind, .str name, .str text, .int .i64 n] 28])[H.length]? = some (.cells [.int .i64 kind, .str name, .str text, .int .i64 n] 28) := get_new _ _
  refine ⟨_, fun H' _ => names_spec h29 H', ?_⟩
  conv => whnf
  refine soft_load (ptr_ok hx) (load_at (off := 0) hx rfl) ?_
  conv => whnf
  have hkn : kind.toNat < 7 := by omega
  have hw : (strs namesA)[kind.toNat]? = some (.str (namesA.getD kind.toNat [])) := by
    have : kind.toNat < namesA.length := hkn
    simp [strs, List.getElem?_eq_getElem this]
  refine step_iaddr hk.1 hw rfl ?_
  conv => whnf
  refine ⟨rfl, ?_⟩
  conv => whnf
  refine ⟨fun p hp => ?_, ?_⟩
  · simp only [List.mem_singleton] at hp; subst hp; exact ⟨rfl, rfl⟩
  conv => whnf
  refine step_load (load_at (off := 0) hx rfl) ?_
  conv => whnf
  have hkeep : Keep H.length H (H ++ [AObj.cells [.int .i64 kind, .str name, .str text, .int .i64 n] 28]) := Keep.push (Nat.le_refl _) _
  cases h0 : (kind == 0)
  · conv => whnf
    cases h2 : (kind == 2)
    · conv => whnf
      cases h6 : (kind == 6)
      · conv => whnf
        refine step_load (load_at (off := 1) hx rfl) ?_
        conv => whnf
        refine ⟨fun p hp => ?_, ?_⟩
        · simp only [List.mem_singleton] at hp; subst hp; exact ⟨rfl, rfl⟩
        conv => whnf
        refine app_full (n := H.length) (xs := strs [namesA.getD kind.toNat []]) (ys := strs [name]) (sized_strs _) (sized_strs _) (by simp [strs]) (by simp [strs]) (by simp [strs]) hkeep.1 fun tk' H3 hg ha => ?_
        conv => whnf
        obtain ⟨J, hJ⟩ := (hkeep.trans hg.1).ext
        have e0 : ¬ kind = 0 := by simpa using h0
        have e2 : ¬ kind = 2 := by simpa using h2
        have e6 : ¬ kind = 6 := by simpa using h6
        refine ⟨J, _, hJ, rfl, ?_⟩
        rw [wordsA, if_neg e0, if_neg e2, if_neg e6]
        exact Weak.tok _ _
      · conv => whnf
        have e6 : kind = 6 := by simpa using h6
        obtain ⟨J, hJ⟩ := hkeep.ext
        subst e6
        exact ⟨J, _, hJ, rfl, Weak.tok _ _⟩
    · conv => whnf
      have e2 : kind = 2 := by simpa using h2
      subst e2
      refine step_load (load_at (off := 3) hx rfl) ?_
      conv => whnf
      refine (Y.itoa n hn.1 hn.2 _).mono fun r H2 ⟨e1, e2⟩ => ?_
      subst e1 e2
      conv => whnf
      refine ⟨fun p hp => ?_, ?_⟩
      · simp only [List.mem_singleton] at hp; subst hp; exact ⟨rfl, rfl⟩
      conv => whnf
      refine app_full (n := H.length) (xs := strs [namesA.getD 2 []]) (ys := strs [Y.itoaA n]) (sized_strs _) (sized_strs _) (by simp [strs]) (by simp [strs]) (by simp [strs]) hkeep.1 fun tk' H3 hg ha => ?_
      conv => whnf
      obtain ⟨J, hJ⟩ := (hkeep.trans hg.1).ext
      exact ⟨J, _, hJ, rfl, Weak.tok _ _⟩
  · conv => whnf
    have e0 : kind = 0 := by simpa using h0
    subst e0
    refine soft_load (ptr_ok hx) (load_at (off := 1) hx rfl) ?_
    conv => whnf
    refine soft_load (ptr_ok hx) (load_at (off := 3) hx rfl) ?_
    conv => whnf
    refine ⟨_, fun H' _ => Y.itoa n hn.1 hn.2 H', ?_⟩
    conv => whnf
    refine soft_load (ptr_ok hx) (load_at (off := 2) hx rfl) ?_
    conv => whnf
    refine ⟨_, fun H' _ => hex_spec h33 h51 h21 Y.bld text ht H', ?_⟩
    conv => whnf
    refine ⟨fun p hp => ?_, ?_⟩
    · simp only [List.mem_cons, List.not_mem_nil, or_false] at hp
      rcases hp with rfl | rfl | rfl <;> exact ⟨rfl, rfl⟩
    conv => whnf
    refine app_full (n := H.length) (xs := strs [namesA.getD 0 []]) (ys := strs [name, Y.itoaA n, hexA text]) (sized_strs _) (sized_strs _) (by simp [strs]) (by simp [strs]) (by simp [strs]) hkeep.1 fun tk' H3 hg ha => ?_
    conv => whnf
    obtain ⟨J, hJ⟩ := (hkeep.trans hg.1).ext
    exact ⟨J, _, hJ, rfl, Weak.tok _ _⟩

end Go.Ag

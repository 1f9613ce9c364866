/- Package script: step. -/
import Derived.Test.YtljfbnbmcemdcaaGreatDoorAgScript2
set_option linter.unusedVariables false
namespace Go.Ag
open Go

variable {T : Tab} {L : Lnk}

def idxStr (l : List (List UInt8)) (w : List UInt8) : Int := match l.findIdx? (· == w) with
  | some i => i
  | none => -1

structure ScriptLib3 (L : Lnk) extends ScriptLib2 L where
  index : ∀ w, Pure L 28 [.lst (strs namesA) .none, .str w] (.int .i64 (idxStr namesA w))
  atoi : ∀ s : List UInt8, s.length ≤ 2 ^ 40 → Pure L 30 [.str s] (.tup [.int .i64 (atoiA s).1, if (atoiA s).2 then .niliface else .iface errT .undef])

def zeroS : StepA := ⟨0, [], [], 0⟩

def stepA (I : UInt8 → Int) (A : List UInt8 → Int × Bool) (l : List (List UInt8)) : StepA × Bool :=
  let k := idxStr namesA (l.getD 0 [])
  let r := l.drop 1
  if k = 0 ∧ r.length = 3 then (⟨0, r.getD 0 [], (bareA I (r.getD 2 [])).1, (A (r.getD 1 [])).1⟩, (bareA I (r.getD 2 [])).2 && (A (r.getD 1 [])).2)
  else if k = 2 ∧ r.length = 1 then (⟨2, [], [], (A (r.getD 0 [])).1⟩, (A (r.getD 0 [])).2)
  else if k = 6 ∧ r.length = 0 then (⟨6, [], [], 0⟩, true)
  else if 0 ≤ k ∧ k ≠ 0 ∧ k ≠ 2 ∧ k ≠ 6 ∧ r.length = 1 then (⟨k, r.getD 0 [], [], 0⟩, true)
  else (zeroS, false)

theorem step_res {e : Env} {H : Heap} {rs : List ARes} {vs : List AVal} {P : List AVal → Prop} (h : resAll e H rs = some vs) (hp : P vs) : (match resAll e H rs with
    | some vs => P vs
    | none => False) := by rw [h]; exact hp
theorem res_cell {e : Env} {H : Heap} {t : Nat} {k : Option Nat} {v : AVal} {rs : List ARes} {vs : List AVal} (h : loadAt H k (e t) = some v) (hr : resAll e H rs = some vs) : resAll e H (.cell t k :: rs) = some (v :: vs) := by
  simp only [resAll, resA, h, hr]

/-- What step tells, its kind known. -/
def stepK (I : UInt8 → Int) (A : List UInt8 → Int × Bool) (k : Int) (r : List (List UInt8)) : StepA × Bool :=
  if k = 0 ∧ r.length = 3 then (⟨0, r.getD 0 [], (bareA I (r.getD 2 [])).1, (A (r.getD 1 [])).1⟩, (bareA I (r.getD 2 [])).2 && (A (r.getD 1 [])).2)
  else if k = 2 ∧ r.length = 1 then (⟨2, [], [], (A (r.getD 0 [])).1⟩, (A (r.getD 0 [])).2)
  else if k = 6 ∧ r.length = 0 then (⟨6, [], [], 0⟩, true)
  else if 0 ≤ k ∧ k ≠ 0 ∧ k ≠ 2 ∧ k ≠ 6 ∧ r.length = 1 then (⟨k, r.getD 0 [], [], 0⟩, true)
  else (zeroS, false)

theorem step_spec (Y : ScriptLib3 T.L) (h15 : T.has 15 c_15) (h29 : T.has 29 c_29) (h31 : T.has 31 c_31) (w : List UInt8) (r : List (List UInt8)) (hl : ∀ s ∈ r, s.length ≤ 2 ^ 40) :
    Pure T.L 15 [.lst (strs (w :: r)) .none] (.tup [(stepA Y.idxD Y.atoiA (w :: r)).1.av, .bool (stepA Y.idxD Y.atoiA (w :: r)).2]) := fun H => by
  refine ACalls.pure (acallsF h15 (by simp [c_15]) ?_) (.tup _ fun x hx => by
    simp only [List.mem_cons, List.not_mem_nil, or_false] at hx
    rcases hx with rfl | rfl
    · exact .agg _ fun y hy => by simp only [StepA.cells, List.mem_cons, List.not_mem_nil, or_false] at hy; rcases hy with rfl | rfl | rfl | rfl <;> constructor
    · exact .bool _)
  obtain ⟨kd, hkd⟩ : ∃ kd, idxStr namesA w = kd := ⟨_, rfl⟩
  have hidx : Pure T.L 28 [.lst (strs namesA) .none, .str w] (.int .i64 kd) := hkd ▸ Y.index w
  have hst : stepA Y.idxD Y.atoiA (w :: r) = stepK Y.idxD Y.atoiA kd r := by
    unfold stepA stepK
    simp only [List.getD_cons_zero, List.drop_succ_cons, List.drop_zero, hkd]
  rw [hst]
  conv => whnf
  refine ⟨_, fun H' _ => names_spec h29 H', ?_⟩
  conv => whnf
  refine ⟨Int.le_refl 0, ?_⟩
  conv => whnf
  refine ⟨rfl, ?_⟩
  conv => whnf
  refine ⟨rfl, ?_⟩
  conv => whnf
  refine ⟨_, fun H' _ => hidx H', ?_⟩
  conv => whnf
  refine ⟨⟨⟨⟨rfl, rfl⟩, by decide⟩, trivial⟩, ?_⟩
  conv => whnf
  have hz0 := get_push (get_new H (.cells zeroS.cells 28)) (.cells zeroS.cells 28)
  have hz1 := get_new (H ++ [.cells zeroS.cells 28]) (.cells zeroS.cells 28)
  refine step_store (x := .agg [.int .i64 kd, .str [], .str [], .int .i64 0]) ⟨rfl, rfl⟩ (store_at (off := 0) (k := 4) hz1 rfl (by decide)) ?_
  conv => whnf
  have hne : (H ++ [AObj.cells zeroS.cells 28]).length ≠ H.length := by simp
  have h2 := get_other hz0 hne (.cells [.int .i64 kd, .str [], .str [], .int .i64 0] 28)
  have h4 := get_set hz1 (.cells [.int .i64 kd, .str [], .str [], .int .i64 0] 28)
  have hk : Keep H.length H (((H ++ [AObj.cells zeroS.cells 28]) ++ [AObj.cells zeroS.cells 28]).set (H ++ [AObj.cells zeroS.cells 28]).length (AObj.cells [.int .i64 kd, .str [], .str [], .int .i64 0] 28)) :=
    (Keep.push (Nat.le_refl _) _).trans ((Keep.push (by simp) _).trans (Keep.set (by simp) _))
  refine ⟨by show 1 ≤ (strs (w :: r)).length; simp [strs], Nat.le_refl _, sized_strs _, ?_⟩
  conv => whnf
  have hlen : (((List.drop (Int.toNat 1) (List.take (strs (w :: r)).length (strs (w :: r)))).length : Nat) : Int) = ((r.length : Nat) : Int) := by simp [strs]
  refine step_load (load_at (off := 0) h4 rfl) ?_
  conv => whnf
  cases k0 : (kd == 0)
  · conv => whnf
    refine step_load (load_at (off := 0) h4 rfl) ?_
    conv => whnf
    cases k2 : (kd == 2)
    · conv => whnf
      refine step_load (load_at (off := 0) h4 rfl) ?_
      conv => whnf
      cases k6 : (kd == 6)
      · have n0 : ¬ kd = 0 := by simpa using k0
        have n2 : ¬ kd = 2 := by simpa using k2
        have n6 : ¬ kd = 6 := by simpa using k6
        conv => whnf
        refine step_load (load_at (off := 0) h4 rfl) ?_
        conv => whnf
        cases kg : decide (kd ≥ 0)
        · have ng : ¬ 0 ≤ kd := by simpa using kg
          conv => whnf
          refine ⟨trivial, ?_⟩
          conv => whnf
          refine step_store (x := .agg zeroS.cells) ⟨rfl, rfl⟩ (store_at (off := 0) (k := 4) h2 rfl (by decide)) ?_
          conv => whnf
          refine step_res (res_cell (load_all (get_set h2 _) rfl) rfl) ?_
          obtain ⟨J, hJ⟩ := (hk.trans (Keep.set (Nat.le_refl _) _)).ext
          refine ⟨J, _, hJ, rfl, ?_⟩
          have hs : stepK Y.idxD Y.atoiA kd r = (zeroS, false) := by
            unfold stepK
            rw [if_neg (by omega : ¬ (kd = 0 ∧ r.length = 3)), if_neg (by omega : ¬ (kd = 2 ∧ r.length = 1)), if_neg (by omega : ¬ (kd = 6 ∧ r.length = 0)), if_neg (by omega)]
          rw [hs]
          exact Weak.refl _
        · have pg : 0 ≤ kd := by simpa using kg
          conv => whnf
          refine step_load (load_at (off := 0) h4 rfl) ?_
          conv => whnf
          rw [show (kd != 0) = true from by simpa using n0]
          conv => whnf
          refine step_load (load_at (off := 0) h4 rfl) ?_
          conv => whnf
          rw [show (kd != 2) = true from by simpa using n2]
          conv => whnf
          refine step_load (load_at (off := 0) h4 rfl) ?_
          conv => whnf
          rw [show (kd != 6) = true from by simpa using n6]
          conv => whnf
          rw [hlen]
          cases kl : (((r.length : Nat) : Int) == 1)
          · have el : ¬ r.length = 1 := fun e => by rw [e] at kl; cases kl
            conv => whnf
            refine ⟨trivial, ?_⟩
            conv => whnf
            refine step_store (x := .agg zeroS.cells) ⟨rfl, rfl⟩ (store_at (off := 0) (k := 4) h2 rfl (by decide)) ?_
            conv => whnf
            refine step_res (res_cell (load_all (get_set h2 _) rfl) rfl) ?_
            obtain ⟨J, hJ⟩ := (hk.trans (Keep.set (Nat.le_refl _) _)).ext
            refine ⟨J, _, hJ, rfl, ?_⟩
            have hs : stepK Y.idxD Y.atoiA kd r = (zeroS, false) := by
              unfold stepK
              rw [if_neg (by omega : ¬ (kd = 0 ∧ r.length = 3)), if_neg (by omega : ¬ (kd = 2 ∧ r.length = 1)), if_neg (by omega : ¬ (kd = 6 ∧ r.length = 0)), if_neg (by omega)]
            rw [hs]
            exact Weak.refl _
          · have el : r.length = 1 := by
              have : ((r.length : Nat) : Int) = 1 := by simpa using kl
              omega
            obtain ⟨a, rfl⟩ : ∃ a, r = [a] := List.length_eq_one_iff.1 el
            conv => whnf
            refine ⟨Int.le_refl 0, ?_⟩
            conv => whnf
            refine ⟨rfl, ?_⟩
            conv => whnf
            obtain ⟨H5, s1, h5, ho5, hk5⟩ := store_next (off := 1) (k := 1) (x := .str a) h4 rfl (by simp)
            have h25 := ho5 _ _ h2 (Ne.symm hne)
            have hk5' := hk.trans (hk5 H.length (by simp))
            refine step_store (ok1 rfl) s1 ?_
            conv => whnf
            refine soft_load (ptr_ok h5) (load_all h5 rfl) ?_
            conv => whnf
            obtain ⟨H6, s2, h6, ho6, hk6⟩ := store_next (off := 0) (k := 4) (x := .agg [.int .i64 kd, .str a, .str [], .int .i64 0]) h25 rfl (by decide)
            refine step_store ⟨rfl, rfl⟩ s2 ?_
            conv => whnf
            refine step_res (res_cell (load_all h6 rfl) rfl) ?_
            obtain ⟨J, hJ⟩ := (hk5'.trans (hk6 _ (Nat.le_refl _))).ext
            refine ⟨J, _, hJ, rfl, ?_⟩
            have hs : stepK Y.idxD Y.atoiA kd [a] = (⟨kd, a, [], 0⟩, true) := by
              unfold stepK
              rw [if_neg (by simp [n0]), if_neg (by simp [n2]), if_neg (by simp [n6]), if_pos ⟨pg, n0, n2, n6, rfl⟩]
              rfl
            rw [hs]
            exact Weak.refl _
      · have e6' : kd = 6 := by simpa using k6
        conv => whnf
        rw [hlen]
        cases kl : (((r.length : Nat) : Int) == 0)
        · have el : ¬ r.length = 0 := by simpa using kl
          subst e6'
          conv => whnf
          refine step_load (load_at (off := 0) h4 rfl) ?_
          conv => whnf
          refine step_load (load_at (off := 0) h4 rfl) ?_
          conv => whnf
          refine step_load (load_at (off := 0) h4 rfl) ?_
          conv => whnf
          refine step_load (load_at (off := 0) h4 rfl) ?_
          conv => whnf
          refine ⟨trivial, ?_⟩
          conv => whnf
          refine step_store (x := .agg zeroS.cells) ⟨rfl, rfl⟩ (store_at (off := 0) (k := 4) h2 rfl (by decide)) ?_
          conv => whnf
          refine step_res (res_cell (load_all (get_set h2 _) rfl) rfl) ?_
          obtain ⟨J, hJ⟩ := (hk.trans (Keep.set (Nat.le_refl _) _)).ext
          refine ⟨J, _, hJ, rfl, ?_⟩
          have hs : stepK Y.idxD Y.atoiA 6 r = (zeroS, false) := by
            unfold stepK
            rw [if_neg (by omega : ¬ ((6 : Int) = 0 ∧ r.length = 3)), if_neg (by omega : ¬ ((6 : Int) = 2 ∧ r.length = 1)), if_neg (by omega : ¬ ((6 : Int) = 6 ∧ r.length = 0)), if_neg (by omega)]
          rw [hs]
          exact Weak.refl _
        · conv => whnf
          refine soft_load (ptr_ok h4) (load_all h4 rfl) ?_
          conv => whnf
          refine step_store (x := .agg [.int .i64 kd, .str [], .str [], .int .i64 0]) ⟨rfl, rfl⟩ (store_at (off := 0) (k := 4) h2 rfl (by decide)) ?_
          conv => whnf
          refine step_res (res_cell (load_all (get_set h2 _) rfl) rfl) ?_
          have e6 : kd = 6 := by simpa using k6
          have el : r.length = 0 := by simpa using kl
          obtain ⟨J, hJ⟩ := (hk.trans (Keep.set (Nat.le_refl _) _)).ext
          refine ⟨J, _, hJ, rfl, ?_⟩
          have hs : stepK Y.idxD Y.atoiA kd r = (⟨6, [], [], 0⟩, true) := by
            unfold stepK
            rw [if_neg (by omega : ¬ (kd = 0 ∧ r.length = 3)), if_neg (by omega : ¬ (kd = 2 ∧ r.length = 1)), if_pos ⟨e6, el⟩]
          rw [hs]
          subst e6
          exact Weak.refl _
    · have e2' : kd = 2 := by simpa using k2
      subst e2'
      conv => whnf
      rw [hlen]
      cases kl : (((r.length : Nat) : Int) == 1)
      · have el : ¬ r.length = 1 := fun e => by rw [e] at kl; cases kl
        conv => whnf
        refine step_load (load_at (off := 0) h4 rfl) ?_
        conv => whnf
        refine step_load (load_at (off := 0) h4 rfl) ?_
        conv => whnf
        refine step_load (load_at (off := 0) h4 rfl) ?_
        conv => whnf
        refine step_load (load_at (off := 0) h4 rfl) ?_
        conv => whnf
        refine ⟨trivial, ?_⟩
        conv => whnf
        refine step_store (x := .agg zeroS.cells) ⟨rfl, rfl⟩ (store_at (off := 0) (k := 4) h2 rfl (by decide)) ?_
        conv => whnf
        refine step_res (res_cell (load_all (get_set h2 _) rfl) rfl) ?_
        obtain ⟨J, hJ⟩ := (hk.trans (Keep.set (Nat.le_refl _) _)).ext
        refine ⟨J, _, hJ, rfl, ?_⟩
        have hs : stepK Y.idxD Y.atoiA 2 r = (zeroS, false) := by
          unfold stepK
          rw [if_neg (by omega : ¬ ((2 : Int) = 0 ∧ r.length = 3)), if_neg (by omega : ¬ ((2 : Int) = 2 ∧ r.length = 1)), if_neg (by omega : ¬ ((2 : Int) = 6 ∧ r.length = 0)), if_neg (by omega)]
        rw [hs]
        exact Weak.refl _
      · have el : r.length = 1 := by
          have : ((r.length : Nat) : Int) = 1 := by simpa using kl
          omega
        obtain ⟨a, rfl⟩ : ∃ a, r = [a] := List.length_eq_one_iff.1 el
        conv => whnf
        refine ⟨Int.le_refl 0, ?_⟩
        conv => whnf
        refine ⟨rfl, ?_⟩
        conv => whnf
        have hat := Y.atoi a (hl a (by simp))
        obtain ⟨m, b, hA⟩ : ∃ m b, Y.atoiA a = (m, b) := ⟨_, _, rfl⟩
        rw [hA] at hat
        have hs : stepK Y.idxD Y.atoiA 2 [a] = (⟨2, [], [], m⟩, b) := by
          show ((⟨2, [], [], (Y.atoiA a).1⟩, (Y.atoiA a).2) : StepA × Bool) = _
          rw [hA]
        rw [hs]
        refine (hat _).mono fun r1 H2 ⟨e1, e2⟩ => ?_
        subst e1 e2
        obtain ⟨H5, s1, h5, ho5, hk5⟩ := store_next (off := 3) (k := 1) (x := .int .i64 m) h4 rfl (by decide)
        have h25 := ho5 _ _ h2 (Ne.symm hne)
        have hk5' := hk.trans (hk5 H.length (by simp))
        cases b
        · conv => whnf
          refine step_store (ok1 rfl) s1 ?_
          conv => whnf
          refine soft_load (ptr_ok h5) (load_all h5 rfl) ?_
          conv => whnf
          obtain ⟨H6, s2, h6, ho6, hk6⟩ := store_next (off := 0) (k := 4) (x := .agg [.int .i64 2, .str [], .str [], .int .i64 m]) h25 rfl (by decide)
          refine step_store ⟨rfl, rfl⟩ s2 ?_
          conv => whnf
          refine step_res (res_cell (load_all h6 rfl) rfl) ?_
          obtain ⟨J, hJ⟩ := (hk5'.trans (hk6 _ (Nat.le_refl _))).ext
          exact ⟨J, _, hJ, rfl, Weak.refl _⟩
        · conv => whnf
          refine step_store (ok1 rfl) s1 ?_
          conv => whnf
          refine soft_load (ptr_ok h5) (load_all h5 rfl) ?_
          conv => whnf
          obtain ⟨H6, s2, h6, ho6, hk6⟩ := store_next (off := 0) (k := 4) (x := .agg [.int .i64 2, .str [], .str [], .int .i64 m]) h25 rfl (by decide)
          refine step_store ⟨rfl, rfl⟩ s2 ?_
          conv => whnf
          refine step_res (res_cell (load_all h6 rfl) rfl) ?_
          obtain ⟨J, hJ⟩ := (hk5'.trans (hk6 _ (Nat.le_refl _))).ext
          exact ⟨J, _, hJ, rfl, Weak.refl _⟩
  · have e0' : kd = 0 := by simpa using k0
    subst e0'
    conv => whnf
    rw [hlen]
    cases kl : (((r.length : Nat) : Int) == 3)
    · have el : ¬ r.length = 3 := fun e => by rw [e] at kl; cases kl
      conv => whnf
      refine step_load (load_at (off := 0) h4 rfl) ?_
      conv => whnf
      refine step_load (load_at (off := 0) h4 rfl) ?_
      conv => whnf
      refine step_load (load_at (off := 0) h4 rfl) ?_
      conv => whnf
      refine step_load (load_at (off := 0) h4 rfl) ?_
      conv => whnf
      refine ⟨trivial, ?_⟩
      conv => whnf
      refine step_store (x := .agg zeroS.cells) ⟨rfl, rfl⟩ (store_at (off := 0) (k := 4) h2 rfl (by decide)) ?_
      conv => whnf
      refine step_res (res_cell (load_all (get_set h2 _) rfl) rfl) ?_
      obtain ⟨J, hJ⟩ := (hk.trans (Keep.set (Nat.le_refl _) _)).ext
      refine ⟨J, _, hJ, rfl, ?_⟩
      have hs : stepK Y.idxD Y.atoiA 0 r = (zeroS, false) := by
        unfold stepK
        rw [if_neg (by omega : ¬ ((0 : Int) = 0 ∧ r.length = 3)), if_neg (by omega : ¬ ((0 : Int) = 2 ∧ r.length = 1)), if_neg (by omega : ¬ ((0 : Int) = 6 ∧ r.length = 0)), if_neg (by omega)]
      rw [hs]
      exact Weak.refl _
    · have el : r.length = 3 := by
        have : ((r.length : Nat) : Int) = 3 := by simpa using kl
        omega
      obtain ⟨a, b, c, rfl⟩ : ∃ a b c, r = [a, b, c] := by
        match r, el with
        | [a, b, c], _ => exact ⟨a, b, c, rfl⟩
      have hat := Y.atoi b (hl b (by simp))
      obtain ⟨m, eb, hA⟩ : ∃ m eb, Y.atoiA b = (m, eb) := ⟨_, _, rfl⟩
      rw [hA] at hat
      have hbr := bare_spec Y.toScriptLib h31 c (hl c (by simp))
      obtain ⟨bt, bo, hB⟩ : ∃ bt bo, bareA Y.idxD c = (bt, bo) := ⟨_, _, rfl⟩
      rw [hB] at hbr
      have hs : stepK Y.idxD Y.atoiA 0 [a, b, c] = (⟨0, a, bt, m⟩, bo && eb) := by
        show ((⟨0, a, (bareA Y.idxD c).1, (Y.atoiA b).1⟩, (bareA Y.idxD c).2 && (Y.atoiA b).2) : StepA × Bool) = _
        rw [hA, hB]
      rw [hs]
      conv => whnf
      refine ⟨Int.le_refl 0, ?_⟩
      conv => whnf
      refine ⟨rfl, ?_⟩
      conv => whnf
      obtain ⟨H5, s1, h5, ho5, hk5⟩ := store_next (off := 1) (k := 1) (x := .str a) h4 rfl (by decide)
      have h25 := ho5 _ _ h2 (Ne.symm hne)
      have hk5' := hk.trans (hk5 H.length (by simp))
      refine step_store (ok1 rfl) s1 ?_
      conv => whnf
      refine ⟨by decide, ?_⟩
      conv => whnf
      refine ⟨rfl, ?_⟩
      conv => whnf
      refine (hat _).mono fun r1 H2 ⟨e1, e2⟩ => ?_
      subst e1 e2
      have h5 : H2[(H ++ [AObj.cells zeroS.cells 28]).length]? = some (.cells [.int .i64 0, .str a, .str [], .int .i64 0] 28) := h5
      obtain ⟨H6, s2, h6, ho6, hk6⟩ := store_next (off := 3) (k := 1) (x := .int .i64 m) h5 rfl (by simp)
      have h6 : H6[(H ++ [AObj.cells zeroS.cells 28]).length]? = some (.cells [.int .i64 0, .str a, .str [], .int .i64 m] 28) := h6
      have h26 := ho6 _ _ h25 (Ne.symm hne)
      have hk6' := hk5'.trans (hk6 H.length (by simp))
      obtain ⟨H7, s3, h7, ho7, hk7⟩ := store_next (off := 2) (k := 1) (x := .str bt) h6 rfl (by simp)
      have h7 : H7[(H ++ [AObj.cells zeroS.cells 28]).length]? = some (.cells [.int .i64 0, .str a, .str bt, .int .i64 m] 28) := h7
      have h27 := ho7 _ _ h26 (Ne.symm hne)
      have hk7' := hk6'.trans (hk7 H.length (by simp))
      obtain ⟨H8, s4, h8, ho8, hk8⟩ := store_next (off := 0) (k := 4) (x := .agg [.int .i64 0, .str a, .str bt, .int .i64 m]) h27 rfl (by decide)
      obtain ⟨J, hJ⟩ := (hk7'.trans (hk8 _ (Nat.le_refl _))).ext
      cases eb
      · conv => whnf
        refine step_store (ok1 rfl) s2 ?_
        conv => whnf
        refine ⟨by decide, ?_⟩
        conv => whnf
        refine ⟨rfl, ?_⟩
        conv => whnf
        refine (hbr _).mono fun r1 H2 ⟨e1, e2⟩ => ?_
        subst e1 e2
        conv => whnf
        refine step_store (ok1 rfl) s3 ?_
        conv => whnf
        refine soft_load (ptr_ok h7) (load_all h7 rfl) ?_
        cases bo
        · conv => whnf
          refine step_store ⟨rfl, rfl⟩ s4 ?_
          conv => whnf
          refine step_res (res_cell (load_all h8 rfl) rfl) ?_
          exact ⟨J, _, hJ, rfl, Weak.refl _⟩
        · conv => whnf
          refine step_store ⟨rfl, rfl⟩ s4 ?_
          conv => whnf
          refine step_res (res_cell (load_all h8 rfl) rfl) ?_
          exact ⟨J, _, hJ, rfl, Weak.refl _⟩
      · conv => whnf
        refine step_store (ok1 rfl) s2 ?_
        conv => whnf
        refine ⟨by decide, ?_⟩
        conv => whnf
        refine ⟨rfl, ?_⟩
        conv => whnf
        refine (hbr _).mono fun r1 H2 ⟨e1, e2⟩ => ?_
        subst e1 e2
        conv => whnf
        refine step_store (ok1 rfl) s3 ?_
        conv => whnf
        refine soft_load (ptr_ok h7) (load_all h7 rfl) ?_
        cases bo
        · conv => whnf
          refine step_store ⟨rfl, rfl⟩ s4 ?_
          conv => whnf
          refine step_res (res_cell (load_all h8 rfl) rfl) ?_
          exact ⟨J, _, hJ, rfl, Weak.refl _⟩
        · conv => whnf
          refine step_store ⟨rfl, rfl⟩ s4 ?_
          conv => whnf
          refine step_res (res_cell (load_all h8 rfl) rfl) ?_
          exact ⟨J, _, hJ, rfl, Weak.refl _⟩

end Go.Ag

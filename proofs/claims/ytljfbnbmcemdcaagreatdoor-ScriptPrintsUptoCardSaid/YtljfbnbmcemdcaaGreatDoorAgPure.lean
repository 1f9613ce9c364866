/- Contracts told at a small heap, for use. -/
import Derived.Test.YtljfbnbmcemdcaaGreatDoorAgFrame
set_option linter.unusedVariables false
namespace Go.Ag
open Go

variable {L : Lnk}

/-- A call that hands back this, and leaves nothing that can be seen. -/
def Pure (L : Lnk) (f : Nat) (args : List AVal) (y : AVal) : Prop := ∀ H, ACalls L f args H fun r H' => r = .ret y ∧ H' = H

theorem map_low {ρ : Nat → Nat} {args : List AVal} (h : ∀ x ∈ args, Low 0 x) : args.map (ren ρ) = args :=
  (List.map_congr_left (g := id) fun x hx => ren_low (n := 0) (fun i hi => absurd hi (Nat.not_lt_zero i)) (h x hx)).trans (List.map_id args)
theorem ren_low0 {ρ : Nat → Nat} {x : AVal} (h : Low 0 x) : ren ρ x = x := ren_low (n := 0) (fun i hi => absurd hi (Nat.not_lt_zero i)) h

/-- A call that names no places, run at the empty heap. -/
theorem Pure.run {f : Nat} {args : List AVal} {y : AVal} (ha : ∀ x ∈ args, Low 0 x) (hy : Low 0 y) (h : ACalls L f args [] fun r _ => ∃ x, r = .ret x ∧ Weak L x y) : Pure L f args y := fun H => by
  have h1 : ACalls L f args [] fun r H' => r = .ret y ∧ H' = [] := ACalls.pure (h.mono fun r H' ⟨x, e1, e2⟩ => ⟨H', x, by simp, e1, e2⟩) hy
  have hp : Part H [] [] := ⟨List.nodup_nil, rfl, fun k i o hk => by cases hk⟩
  have h2 := h1.frame (H := H) [] hp (fun o ho => by cases ho)
  rw [map_low ha] at h2
  refine h2.mono fun r H' ⟨r1, H1, ⟨e1, e2⟩, _, e3, e4⟩ => ?_
  subst e1 e2
  refine ⟨by rw [e3]; simp only [renR]; rw [ren_low0 hy], by rw [e4]; simp [putL]⟩

theorem Pure.to {f : Nat} {args : List AVal} {y : AVal} (h : Pure L f args y) {H : Heap} {K KP : AVal → Heap → Prop} (hk : K y H) : ACalls L f args H (contR K KP) :=
  (h H).mono fun r H' ⟨e1, e2⟩ => by subst e1 e2; exact hk
theorem Pure.soft {f : Nat} {args : List AVal} {y : AVal} (h : Pure L f args y) {H0 : Heap} {K : AVal → Prop} (hk : K y) :
    ∃ v, (∀ H', agree H0.length H0 H' → ACalls L f args H' fun r H'' => r = .ret v ∧ H'' = H') ∧ K v := ⟨y, fun H' _ => h H', hk⟩
theorem ret_weak {x y : AVal} (h : Weak L x y) : ∃ z, ARet.ret x = .ret z ∧ Weak L z y := ⟨x, rfl, h⟩

/-! what can be forgotten -/
/-- What a call at a small heap leaves, new things forgotten. -/
theorem ACalls.gcW {f : Nat} {args : List AVal} {H0 : Heap} {Q : AVal → Heap → Prop}
    (h : ACalls L f args H0 fun r H1 => ∃ x y K K' J, H1 = K ++ J ∧ r = .ret x ∧ Weak L x y ∧ Low H0.length y ∧ K'.length = H0.length ∧ K.length = K'.length ∧
      (∀ (i : Nat) (o o' : AObj), K[i]? = some o → K'[i]? = some o' → WeakO L o o') ∧ (∀ o ∈ K', LowO H0.length o) ∧ Q y K') :
    ACalls L f args H0 fun r H1 => ∃ y, r = .ret y ∧ H1.length = H0.length ∧ Q y H1 := fun g w vs hs hr =>
  (h g w vs hs hr).mono fun e w' ⟨r, H1, g', ⟨x, y, K, K', J, e1, e2, e3, e4, e5, e6, e7, e8, e9⟩, hle, hst, hrep⟩ => by
    subst e1 e2
    obtain ⟨v, rfl, hrep⟩ := hrep
    have h2 : St L g' w' (K' ++ J) := hst.weak (by simp [e6]) fun i o o' ho ho' => by
      rcases Nat.lt_or_ge i K.length with hi | hi
      · rw [List.getElem?_append_left hi] at ho
        rw [List.getElem?_append_left (by omega)] at ho'
        exact e7 i o o' ho ho'
      · rw [List.getElem?_append_right hi] at ho
        rw [List.getElem?_append_right (by omega), ← e6, ho] at ho'
        cases ho'
        exact WeakO.refl o
    refine ⟨.ret y, K', g'.cut H0.length, ⟨y, rfl, e5, e9⟩, Ghost.le_cut hle fun i v hi => hs.new i v hi, ?_, v, rfl, (e3 _ _ hrep).cut e4⟩
    rw [← e5]
    exact h2.cut (by rw [e5]; exact e8)

/-- The same, one object in the small heap: in any heap. -/
theorem ACalls.frame1 {f : Nat} {args args' : List AVal} {o0 : AObj} {Q : AVal → AObj → Prop} (ha0 : o0.alive = true)
    (h : ACalls L f args [o0] fun r H1 => ∃ y, r = .ret y ∧ H1.length = 1 ∧ ∀ o, H1[0]? = some o → Q y o) {H : Heap} {id : Nat} (hid : H[id]? = some (renO (fun _ => id) o0))
    (hargs : args.map (ren (nameOf [id] H.length)) = args') (ho : renO (nameOf [id] H.length) o0 = renO (fun _ => id) o0) :
    ACalls L f args' H fun r H' => ∃ y o, Q y o ∧ r = .ret (ren (nameOf [id] H.length) y) ∧ H' = H.set id (renO (nameOf [id] H.length) o) := by
  have h2 := h.frame (H := H) [id] ⟨by simp, rfl, fun k i o hk hk0 => by
    cases k with
    | zero => simp at hk hk0; subst hk hk0; rw [ho]; exact hid
    | succ k => simp at hk⟩ (fun o ho => by simp at ho; subst ho; exact ha0)
  rw [hargs] at h2
  refine h2.mono fun r H' ⟨r1, H1, ⟨y, e1, e2, e3⟩, _, e4, e5⟩ => ?_
  obtain ⟨o, rfl⟩ := List.length_eq_one_iff.1 e2
  subst e1
  exact ⟨y, o, e3 o rfl, e4, by rw [e5]; simp [putL]⟩

/-! ### the first state -/
/-- Where a call begins: all that there is stays as it is. -/
def Ghost.start (w : World) : Ghost := { w0 := w, base := w.heap.size, fz := fun b o => w.cell? ⟨b, o, none⟩, ob := fun _ _ => none, kp := fun _ => none }

theorem St.start {w : World} (h : L.start w w.heap.size) : St L (Ghost.start w) w [] where
  fz := fun b o v hv => hv
  obj := fun id o ho => by cases ho
  new := fun id v _ => rfl
  bnd := fun id v s hs => by cases hs
  inj := fun i j o o' s s' hi => by cases hi
  below := RowKit.Below.refl _ _
  bs := Nat.le_refl _
  fact := h
  kp := fun b o hb => by cases hb

/-- A contract, from such a state. -/
theorem Pure.calls {f : Nat} {args : List AVal} {y : AVal} (h : Pure L f args y) {vs : List Value} {w : World} (hst : L.start w w.heap.size) (hr : RepL L (Ghost.start w) vs args) :
    Calls L.P (L.num f) vs.toArray w fun e w' => ∃ v g, e = .returned v ∧ Rep L g v y ∧ RowKit.Below w.heap.size w w' := by
  refine (h [] _ w vs (St.start hst) hr).mono fun e w' ⟨r, H', g', ⟨e1, e2⟩, hle, hst', hrep⟩ => ?_
  subst e1
  obtain ⟨v, rfl, hv⟩ := hrep
  have hb := hst'.below
  rw [hle.w0, hle.base] at hb
  exact ⟨v, g', rfl, hv, hb⟩

end Go.Ag

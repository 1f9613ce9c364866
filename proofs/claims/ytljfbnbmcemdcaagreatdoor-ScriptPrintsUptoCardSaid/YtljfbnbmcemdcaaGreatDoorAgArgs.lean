/- An argument that is a slice of steps, opened. -/
import Derived.Test.YtljfbnbmcemdcaaGreatDoorAgPure
import Derived.Test.YtljfbnbmcemdcaaGreatDoorAgScript5
import Derived.Deep.Slices
import Derived.ChangeArms
set_option linter.unusedVariables false
namespace Go.Ag
open Go Go.Deep Go.ChangeShapes Go.WideShapes

variable {L : Lnk}

instance : Inhabited StepA := ⟨⟨0, [], [], 0⟩⟩
def StepA.vals (x : StepA) : List Value := [.int .i64 x.kind, .string ⟨x.name.toArray⟩, .string ⟨x.text.toArray⟩, .int .i64 x.n]
def StepA.datum {H : Type} (x : StepA) : DataW H := .agg [.lit (.int .i64 x.kind), .lit (.string x.name), .lit (.string x.text), .lit (.int .i64 x.n)]

theorem steps_rep (g : Ghost) : ∀ l : List StepA, RepL L g (l.flatMap StepA.vals) (flat (l.map StepA.av))
  | [] => .nil
  | x :: l => by
    rw [List.flatMap_cons, List.map_cons, flat_cons]
    exact RepL.append (.cons _ _ _ _ (.int _ _) (.cons _ _ _ _ (.str _) (.cons _ _ _ _ (.str _) (.cons _ _ _ _ (.int _ _) .nil)))) (steps_rep g l)
theorem vals_at : ∀ (l : List StepA) (j : Nat), (l.flatMap StepA.vals)[j]? = (l[j / 4]?).bind fun x => x.vals[j % 4]?
  | [], j => by simp
  | x :: l, j => by
    rw [List.flatMap_cons]
    have hl : x.vals.length = 4 := rfl
    rcases Nat.lt_or_ge j 4 with h | h
    · rw [List.getElem?_append_left (by omega), Nat.div_eq_of_lt h, Nat.mod_eq_of_lt h]; rfl
    · rw [List.getElem?_append_right (by omega), hl, vals_at l (j - 4)]
      obtain ⟨k, rfl⟩ : ∃ k, j = k + 4 := ⟨j - 4, by omega⟩
      simp [Nat.add_div_right, Nat.add_mod_right]

theorem wf_range {n : Int} (h : (Lit.int .i64 n).wf = true) : -9223372036854775808 ≤ n ∧ n ≤ 9223372036854775807 := by
  simp only [Lit.wf, Bool.and_eq_true, decide_eq_true_eq] at h
  exact h

theorem open_steps {H : Type} {enc : TypeId × Value → H} {W : World} {spare : Nat → Bool} {held : Bool} {t e : TypeId} {f0 f1 f2 f3 : Field} {fuel : Nat} {v : Value} {x : DataW H × List MemPlace}
    (ht : L.P.underlying t = some (.slice e)) (he : L.P.underlying e = some (.struct #[f0, f1, f2, f3])) (ce : L.P.cellsOf e = 4)
    (o0 : f0.offset = 0) (o1 : f1.offset = 1) (o2 : f2.offset = 2) (o3 : f3.offset = 3) (c0 : L.P.cellsOf f0.type = 1) (c1 : L.P.cellsOf f1.type = 1) (c2 : L.P.cellsOf f2.type = 1) (c3 : L.P.cellsOf f3.type = 1)
    (u0 : L.P.underlying f0.type = some (.int .i64)) (u1 : L.P.underlying f1.type = some .string) (u2 : L.P.underlying f2.type = some .string) (u3 : L.P.underlying f3.type = some (.int .i64))
    (h : DataW.trod enc L.P W 0 spare held fuel t [v] = some x) :
    ∃ l : List StepA, Rep L (Ghost.start W) v (.lst (l.map StepA.av) .none) ∧ (∀ y ∈ l, -9223372036854775808 ≤ y.n ∧ y.n ≤ 9223372036854775807) ∧ (x.1 = .nil ∧ l = [] ∨ ∃ sp, x.1 = .slice (l.map StepA.datum) sp) := by
  rcases open_slice ht h with ⟨h1, h2⟩ | ⟨a, len, cap, m, n, D, Pl, h1, hb, hl, hm, hmm, h2, hx⟩
  · refine ⟨[], ?_, (fun y hy => by cases hy), Or.inl ⟨by rw [h2], rfl⟩⟩
    obtain rfl : v = .slice none 0 0 := by simpa using h1
    exact .lst none 0 4 0 0 [] [] .none (fun h => absurd rfl h) (fun j u hu => by simp at hu) (fun x hx => by cases hx) (Nat.le_refl _) trivial .nil
  obtain rfl : v = .slice (some a) len cap := by simpa using h1
  have hlm : len ≤ m := by rw [hmm]; split <;> omega
  have each : ∀ i, i < m → ∃ y : StepA, (∀ r, r < 4 → W.cell? (a.add (i * 4 + r)) = y.vals[r]?) ∧ D i = y.datum ∧ -9223372036854775808 ≤ y.n ∧ y.n ≤ 9223372036854775807 := by
    intro i hi
    obtain ⟨cs', g1, g2⟩ := hx i hi
    rw [ce] at g1
    obtain ⟨_, hlen, hcell⟩ := World.cells?_some g1
    obtain ⟨xs, k, hk, hxy, _, hxl, hf⟩ := DataW.trod_struct he g2
    match xs, hxl, cs', hlen with
    | [y0, y1, y2, y3], _, [v0, v1, v2, v3], _ =>
      have k0 := hf 0 f0 rfl
      have k1 := hf 1 f1 rfl
      have k2 := hf 2 f2 rfl
      have k3 := hf 3 f3 rfl
      simp [o0, o1, o2, o3, c0, c1, c2, c3] at k0 k1 k2 k3
      obtain ⟨z0, q0, rfl, _⟩ := DataW.trod_int u0 k0
      obtain ⟨z1, q1, rfl, _⟩ := DataW.trod_string u1 k1
      obtain ⟨z2, q2, rfl, _⟩ := DataW.trod_string u2 k2
      obtain ⟨z3, q3, rfl, w3⟩ := DataW.trod_int u3 k3
      simp only [List.cons.injEq, and_true] at q0 q1 q2 q3
      subst q0 q1 q2 q3
      simp only [Prod.mk.injEq] at hxy
      refine ⟨⟨z0, z1.data.toList, z2.data.toList, z3⟩, fun r hr => ?_, by simpa [StepA.datum] using hxy.1, ?_⟩
      · have := hcell r hr
        rw [add_add] at this
        rw [this]
        match r, hr with
        | 0, _ => rfl
        | 1, _ => simp [StepA.vals]
        | 2, _ => simp [StepA.vals]
        | 3, _ => rfl
      · exact wf_range w3
  obtain ⟨Y, hY⟩ := choose_lt each
  have hlen : ((List.range len).map Y).length = len := by simp
  refine ⟨(List.range len).map Y, ?_, fun y hy => ?_, Or.inr ⟨_, by
    rw [h2]
    show DataW.slice _ _ = DataW.slice _ _
    congr 1
    rw [List.map_map]
    exact List.map_congr_left fun i hi => (hY i (by have := List.mem_range.1 hi; omega)).2.1⟩⟩
  · have hcells : ∀ (j : Nat) (u : Value), (((List.range len).map Y).flatMap StepA.vals)[j]? = some u → W.cell? (a.add j) = some u := fun j u hu => by
      rw [vals_at] at hu
      cases hj : ((List.range len).map Y)[j / 4]? with
      | none => rw [hj] at hu; cases hu
      | some y =>
        rw [hj] at hu
        have hjl : j / 4 < len := by
          rcases Nat.lt_or_ge (j / 4) len with h | h
          · exact h
          · rw [List.getElem?_eq_none (by rw [hlen]; exact h)] at hj; cases hj
        have hy : y = Y (j / 4) := by simpa [hjl] using hj.symm
        have := (hY (j / 4) (by omega)).1 (j % 4) (Nat.mod_lt _ (by omega))
        rw [show j / 4 * 4 + j % 4 = j from by omega, ← hy] at this
        rw [this]
        exact hu
    have ha : (List.range len).map Y ≠ [] → a = ⟨a.block, a.off, none⟩ := fun hne => by
      have h0 : 0 < len := by
        rcases Nat.eq_zero_or_pos len with h | h
        · subst h; simp at hne
        · exact h
      have := (hY 0 (by omega)).1 0 (by omega)
      simp only [Nat.zero_mul, Nat.add_zero] at this
      obtain ⟨ab, ao, sp⟩ := a
      cases sp with
      | none => rfl
      | some q =>
        simp [Addr.add, World.cell?, StepA.vals] at this
        split at this <;> cases this
    have key := Rep.lst (L := L) (g := Ghost.start W) (some a) cap 4 a.block a.off (((List.range len).map Y).map StepA.av) (((List.range len).map Y).flatMap StepA.vals) .none
      (fun hne => by rw [← ha (fun e => hne (by rw [e]; rfl))])
      (fun j u hu => by
        have hne : (List.range len).map Y ≠ [] := fun e => by rw [e] at hu; simp at hu
        have := hcells j u hu
        rw [ha hne, addr_add] at this
        exact this)
      (fun y hy => by obtain ⟨z, _, rfl⟩ := List.mem_map.1 hy; rfl) (by simpa using hl) trivial (steps_rep _ _)
    simpa using key
  · obtain ⟨i, hi, rfl⟩ := List.mem_map.1 hy
    exact (hY i (by have := List.mem_range.1 hi; omega)).2.2

end Go.Ag

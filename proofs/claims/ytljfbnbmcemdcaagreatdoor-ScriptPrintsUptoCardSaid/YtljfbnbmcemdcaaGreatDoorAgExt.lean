/- Library functions whose contracts are told of the machine: made abstract contracts. -/
import Derived.Test.YtljfbnbmcemdcaaGreatDoorAgSound
import Derived.Deep.Draws
namespace Go.Ag
open Go
open Go.RowKit (Below)

variable {L : Lnk}

theorem below_drewN (w : World) (n : Nat) : Below w.heap.size w (w.drewN n) := ⟨rfl, rfl, rfl, Nat.le_refl _, fun _ _ => rfl⟩

/-- A call that hands back one value and changes no block that there was. -/
theorem ext_pure {f : Nat} {args : List AVal} {H : Heap} {x : AVal}
    (hc : ∀ g w vs, St L g w H → RepL L g vs args → ∃ v, Rep L g v x ∧ Calls L.P (L.num f) vs.toArray w fun e w' => e = .returned v ∧ Below w.heap.size w w') :
    ACalls L f args H fun r H' => r = .ret x ∧ H' = H := fun g w vs hs hr => by
  obtain ⟨v, h1, h2⟩ := hc g w vs hs hr
  exact h2.mono fun e w' ⟨h3, h4⟩ => ⟨.ret x, H, g, ⟨rfl, rfl⟩, Ghost.le.refl g, hs.wider h4, v, h3, h1⟩

/-- The same, what is handed back told at the end. -/
theorem ext_pure2 {f : Nat} {args : List AVal} {H : Heap} {x : AVal}
    (hc : ∀ g w vs, St L g w H → RepL L g vs args → Calls L.P (L.num f) vs.toArray w fun e w' => (∃ v, e = .returned v ∧ Rep L g v x) ∧ Below w.heap.size w w') :
    ACalls L f args H fun r H' => r = .ret x ∧ H' = H := fun g w vs hs hr => by
  exact (hc g w vs hs hr).mono fun e w' ⟨⟨v, h3, h1⟩, h4⟩ => ⟨.ret x, H, g, ⟨rfl, rfl⟩, Ghost.le.refl g, hs.wider h4, v, h3, h1⟩

/-- A call that hands back a list of a new block's first cells. -/
theorem ext_list {f : Nat} {args : List AVal} {H : Heap} {xs : List AVal} {k : Nat}
    (hk : ∀ x ∈ xs, x.cells.length = k)
    (hc : ∀ g w vs, St L g w H → RepL L g vs args → ∃ (us : Array Value) (t c : Nat), xs.length ≤ c ∧ RepL L g (us.toList.take (xs.length * k)) (flat xs) ∧
      Calls L.P (L.num f) vs.toArray w fun e w' => ∃ w1, Below w.heap.size w w1 ∧ e = .returned (.slice (some ⟨w1.heap.size, 0, none⟩) xs.length c) ∧ Below (w1.heap.size + 1) (w1.alloc (.cells us t)) w') :
    ACalls L f args H fun r H' => r = .ret (.lst xs .none) ∧ H' = H := fun g w vs hs hr => by
  obtain ⟨us, t, c, h1, h2, h3⟩ := hc g w vs hs hr
  refine h3.mono fun e w' ⟨w1, h4, h5, h6⟩ => ?_
  have hs1 := hs.wider h4
  have hlen := h2.length
  rw [flat_length hk] at hlen
  have h7 := hs1.alloc (.cells us t)
  have hf : ∀ o, 0 ≤ o → o < 0 + (us.toList.take (xs.length * k)).length → g.fz w1.heap.size o = none := fun o _ _ => hs1.fz_new o
  have hle := Ghost.setFz_le hs1.kp_new hf
  have h8 : St L (g.setFz w1.heap.size 0 (us.toList.take (xs.length * k))) (w1.alloc (.cells us t)) H := h7.freezeNew hs1.kp_new hf (fun j v hv => by
    rw [cell_alloc_at, Nat.zero_add]
    rw [List.getElem?_take] at hv
    split at hv
    · simpa using hv
    · cases hv) hs1.new_ne
  have h9 : St L (g.setFz w1.heap.size 0 (us.toList.take (xs.length * k))) w' H := h8.wider (h6.mono (by rw [heap_alloc_size]; omega))
  exact ⟨.ret (.lst xs .none), H, _, ⟨rfl, rfl⟩, hle, h9, _, h5,
    .lst _ _ k w1.heap.size 0 xs _ .none (fun _ => rfl) (fun j v hv => Ghost.setFz_at _ _ _ _ j v hv) hk h1 trivial (h2.mono hle)⟩

theorem repL1 {g : Ghost} {vs : List Value} {a : AVal} (h : RepL L g vs [a]) : ∃ v, vs = [v] ∧ Rep L g v a := by
  cases h with | cons v _ _ _ h hs => cases hs; exact ⟨v, rfl, h⟩
theorem repL2 {g : Ghost} {vs : List Value} {a b : AVal} (h : RepL L g vs [a, b]) : ∃ v u, vs = [v, u] ∧ Rep L g v a ∧ Rep L g u b := by
  cases h with | cons v _ _ _ h hs => obtain ⟨u, rfl, h2⟩ := repL1 hs; exact ⟨v, u, rfl, h, h2⟩

end Go.Ag

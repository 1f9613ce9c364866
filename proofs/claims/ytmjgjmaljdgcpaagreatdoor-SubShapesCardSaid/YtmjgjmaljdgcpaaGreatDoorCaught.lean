/- parse.caught at this seat: what a function does that may give up. -/
import Derived.Test.YtmjgjmaljdgcpaaGreatDoorProg
import Derived.Tactics
import Derived.Tactics2
import Derived.Defers
import Derived.Recover
import Derived.Laws.Pointers
import Derived.KernelRfl
set_option maxRecDepth 100000
namespace Go.Proofs
open Go
theorem Tryz.isUp (w : World) : (Instr.typeAssert (.iface 135 (.agg #[])) 20 135 true).run Tryz.prog w = .ok (.tuple #[.agg #[], .bool true]) w := by
  kernel_rfl
theorem Tryz.caught1_panicking (older : List PanicEntry) (w : World) :
    CallsD Tryz.prog 73 #[] (.panicking ({ v := .iface 135 (.agg #[]), recovered := false } :: older)) w fun e u' w' =>
      e = .returned (.tuple #[]) ∧ u' = .panicking ({ v := .iface 135 (.agg #[]), recovered := true } :: older) ∧ w' = w.alloc (.cells #[] 135) := by
  refine callsD_of_wpS Tryz.func73 rfl fun c₀ cs hu => ?_
  have hup := Tryz.isUp
  apply wpS_seq
  apply wpS_region
  simp [wpOpsS, go_sem, recoverD, hu, Tryz.ntmps73, Exit.thenS]
  apply wpS_seq
  apply wpS_region
  simp [wpOpsS, go_sem, Exit.thenS]
  refine wpS_cond (t := true) (by simp [Act.eval, Act.put, Array.replicate]) ?_
  simp only [if_true]
  apply wpS_seq
  apply wpS_region
  simp [wpOpsS, go_sem, Exit.thenS, hup]
  apply wpS_seq
  apply wpS_region
  simp [wpOpsS, go_sem, Exit.thenS]
  refine wpS_cond (t := false) (by simp [Act.eval, Act.put, Array.replicate]) ?_
  simp only [Bool.false_eq_true, if_false]
  refine wpS_of_wp (wp_skip ?_)
  cases c₀
  simp_all [bodyPostS, results, Tryz.results73, Act.put]
theorem Tryz.caught1_idle (w : World) : CallsD Tryz.prog 73 #[] .returning w fun e u' w' => e = .returned (.tuple #[]) ∧ u' = .returning ∧ w' = w := by
  refine callsD_of_wpS Tryz.func73 rfl fun c₀ cs hu => ?_
  apply wpS_seq
  apply wpS_region
  simp [wpOpsS, go_sem, recoverD, hu, Tryz.ntmps73, Exit.thenS]
  apply wpS_seq
  apply wpS_region
  simp [wpOpsS, go_sem, Exit.thenS]
  refine wpS_cond (t := false) (by simp [Act.eval, Act.put, Array.replicate]) ?_
  simp only [Bool.false_eq_true, if_false]
  refine wpS_of_wp (wp_skip ?_)
  cases c₀
  simp_all [bodyPostS, results, Tryz.results73, Act.put]
theorem Tryz.caught_ok (G : Nat) (cap : Array Value) (w : World) (R : World → Prop) (hent : ∀ w, (callFunc G cap).run Tryz.prog w = .ok (.enter G cap) w)
    (h : Calls Tryz.prog G cap w fun e w' => e = .returned (.tuple #[]) ∧ R w') : Calls Tryz.prog 47 #[.func (.func G) #[] cap] w fun e w' => e = .returned (.bool true) ∧ R w' := by
  have hmf : ∀ (fn : Fn) (first cap : Array Value) (w : World), (Instr.makeFunc fn first cap).run Tryz.prog w = .ok (.func fn first cap) w := fun _ _ _ _ => rfl
  go_enter_defers Tryz.func47, Tryz.ntmps47
  go_wp2
  refine h.mono ?_
  rintro e w' ⟨rfl, hR⟩
  go_wp2
  refine leaves_cons (f := 73) (args := #[]) (by simp) (by simp [go_sem]) ?_
  refine (Tryz.caught1_idle _).mono ?_
  rintro e u' w'' ⟨rfl, rfl, rfl⟩
  simp [Leaves, settle, results, Tryz.results47, go_sem, hR]
theorem Tryz.caught_up (G : Nat) (cap : Array Value) (w : World) (R : World → Prop) (hent : ∀ w, (callFunc G cap).run Tryz.prog w = .ok (.enter G cap) w)
    (h : Calls Tryz.prog G cap w fun e w' => e = .panicked [⟨.iface 135 (.agg #[]), false, false⟩] ∧ R (w'.alloc (.cells #[] 135))) : Calls Tryz.prog 47 #[.func (.func G) #[] cap] w fun e w' => e = .returned (.bool false) ∧ R w' := by
  have hmf : ∀ (fn : Fn) (first cap : Array Value) (w : World), (Instr.makeFunc fn first cap).run Tryz.prog w = .ok (.func fn first cap) w := fun _ _ _ _ => rfl
  go_enter_defers Tryz.func47, Tryz.ntmps47
  go_wp2
  refine h.mono ?_
  rintro e w' ⟨rfl, hR⟩
  refine leaves_cons (f := 73) (args := #[]) (by simp) (by simp [go_sem]) ?_
  refine (Tryz.caught1_panicking _ _).mono ?_
  rintro e u' w'' ⟨rfl, rfl, rfl⟩
  simp [Leaves, settle, results, Tryz.results47, go_sem, hR]
end Go.Proofs

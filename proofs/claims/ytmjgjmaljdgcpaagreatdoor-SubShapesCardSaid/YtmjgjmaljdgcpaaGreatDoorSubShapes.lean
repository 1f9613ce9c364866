/- SubShapes: whatever the texts: the law answers true, and each argument reads behind the call as it read before. No condition. -/
import Derived.Test.YtmjgjmaljdgcpaaGreatDoorMachH
import Derived.Test.YtmjgjmaljdgcpaaGreatDoorCards
import Derived.Test.YtmjgjmaljdgcpaaGreatDoorTie
import Derived.WalkKit
import Derived.Carry
import Derived.ProofKit
import Derived.OpenShut
import Derived.Deep.DeepHandedRow
import Derived.Lay
import Derived.LaidOnce
set_option maxRecDepth 100000
namespace Go.Proofs.YtmjgjmaljdgcpaaGreatDoor
open Go Go.Ag
open Go.ChangeShapes Go.WideShapes Go.ChangeAt Go.RowKit
open Go.ChangeMaps (open_string shut_string)
theorem own : ownKnob Tryz.prog.godebug = none := by kernel_rfl
theorem val_str (s : ByteArray) : (⟨s.data.toList.toArray⟩ : ByteArray) = s := by cases s; simp
theorem walk (s0 s1 s2 : ByteArray) (w : World) (hst : startOK w w.heap.size) :
    Calls Tryz.prog 3 #[.string s0, .string s1, .string s2] w fun e w' => e = .returned (.bool true) ∧ Below w.heap.size w w' := by
  have h := (EF fns s0.data.toList s1.data.toList s2.data.toList ).calls (vs := [.string ⟨s0.data.toList.toArray⟩, .string ⟨s1.data.toList.toArray⟩, .string ⟨s2.data.toList.toArray⟩]) hst (.cons _ _ _ _ (.str _) (.cons _ _ _ _ (.str _) (.cons _ _ _ _ (.str _) .nil)))
  rw [val_str, val_str, val_str] at h
  exact h.mono fun e w' ⟨v, g, e1, e2, e3⟩ => ⟨by rw [e1, kE e2], e3⟩
theorem start_of {W : World} (hsh : W.ShapedOpen Tryz.prog) : startOK W W.heap.size := by
  obtain ⟨m, hm⟩ := Tryz.laysM145.s1_3 W hsh
  have hm : W.cell? ⟨0, 0, none⟩ = some (.int .i64 m) := hm
  exact ⟨OX hm, m, hm⟩
set_option maxHeartbeats 1000000 in
theorem lifted (os : Os) (started : os.Started) (H : Type) (enc : TypeId × Value → H) (F : Stop.Interp) :
    ReturnsInHanded {} Tryz.checked os 3 .any ((OpenSpec.ofChange Rows.subShapesSpec).preRow enc Tryz.prog Tryz.f3 Rows.subShapesRow.domain false Rows.subShapesRow.laid) (((OpenSpec.ofChange Rows.subShapesSpec).at F).post enc Tryz.prog Tryz.f3 false true false false) := by
  refine returnsInHanded_of_row (C := Tryz.checked) (s := OpenSpec.ofChange Rows.subShapesSpec) own started (by kernel_rfl) Tryz.func3
    (ChangeSpec.witness_shaped (enc := enc) (C := Tryz.checked) (os := os) (s := Rows.subShapesSpec) (conds := Rows.subShapesRow.domain) (apart := false) (X := fun w _ => laidMetH Tryz.prog Rows.subShapesRow.laid w) false (World.laidAll Tryz.prog os Rows.subShapesRow.laid) #[.string ⟨#[]⟩, .string ⟨#[]⟩, .string ⟨#[]⟩] 8 (World.laidAll_os _ _ _)
      (World.shaped_of_ZipB (by kernel_rfl) (by kernel_rfl)) (by kernel_rfl) (by kernel_rfl) (by kernel_rfl)
      (by rw [MakeChecks.laidMetH_plain _ _ _ (by kernel_rfl)]; exact laidMet_laidAll _ (by kernel_rfl) (by kernel_rfl))) ?_
  intro W base args ds gs before hval hW _ _ _ hL hsh _
  have hst := start_of hsh
  have hW' := hW
  obtain ⟨p, q, hA0, hV, rfl, hfz, hnd⟩ := hW
  have hA : DataW.TrodAll enc Tryz.prog W 0 (fun _ => true) true Tryz.f3.params.toList args.toList ds p := hA0
  rw [Tryz.params3] at hA hval
  obtain ⟨v0, v1, v2, d0, d1, d2, p0, p1, p2, rfl, rfl, rfl, h0, h1, h2⟩ := trodAll_three hA
  obtain ⟨rfl, rfl⟩ := trodVars_none hV
  obtain ⟨s0, rfl, rfl, rfl, hs0⟩ := open_string Tryz.underlying9 (hval 0 9 v0 rfl rfl) h0
  obtain ⟨s1, rfl, rfl, rfl, hs1⟩ := open_string Tryz.underlying9 (hval 1 9 v1 rfl rfl) h1
  obtain ⟨s2, rfl, rfl, rfl, hs2⟩ := open_string Tryz.underlying9 (hval 2 9 v2 rfl rfl) h2
  simp only [List.append_nil] at hW'
  refine (walk s0 s1 s2 W hst).mono fun e W' ⟨he, hbl⟩ => ?_
  subst he
  exact ⟨_, rfl, _, _, _, _, _, _, hW', trodAll_mk1 (shut_bool Tryz.underlying4 _), trodAll_mk3 (shut_string Tryz.underlying9 hs0) (shut_string Tryz.underlying9 hs1) (shut_string Tryz.underlying9 hs2), rfl, hbl.frame _, fun h => by cases h⟩
theorem said : Rows.SubShapesSaid :=
  OpenClaim.holds_of_cond 3 Tryz.f3 rfl rfl rfl rfl rfl rfl rfl ⟨rfl, rfl, rfl, rfl, rfl⟩ rfl rfl rfl rfl rfl (by kernel_rfl) Tryz.func3 (by kernel_rfl)
    (of_decide_eq_true (by kernel_rfl)) (by unfold Func.isWrapper; first | (rw [if_pos (by decide +kernel)]; kernel_rfl) | (rw [if_neg (by decide +kernel)]; exact ⟨rfl, rfl⟩))
    (fun os started H enc _ F => by rw [OpenClaim.pre_eq_preRow]; exact lifted os started H enc F)
theorem plain (f : FuncId) (fn : Func) (hf : Tryz.pinned.checked.prog.funcNamed "cupel/cupellaw09.SubShapes" = some f) (hfn : Tryz.pinned.checked.prog.funcs[f]? = some fn) :
    true = Tryz.pinned.checked.prog.looks [] ∧ ∀ (j : Nat) t, fn.params[j]? = some t → Tryz.pinned.checked.prog.wantsStandIn t = false := by
  obtain rfl : f = 3 := Option.some.inj ((show Tryz.prog.funcNamed "cupel/cupellaw09.SubShapes" = some 3 by kernel_rfl).symm.trans hf) |>.symm
  obtain rfl : fn = Tryz.f3 := (Option.some.inj (Tryz.func3.symm.trans hfn)).symm
  refine ⟨by kernel_rfl, fun j t ht => ?_⟩
  rw [Tryz.params3] at ht
  obtain rfl : t = 9 := by simpa using Array.mem_of_getElem? ht
  exact (show Tryz.prog.wantsStandIn 9 = false by kernel_rfl)
theorem subShapes_holds : Rows.SubShapesCardSaid :=
  Claim7.holds_tied_plain_at .later [] _ _ _ _ said (fun _ h => by cases h) (by kernel_rfl) (fun _ h => by cases h) subShapes_row_tie rfl ⟨rfl, rfl⟩ (by kernel_rfl) rfl plain (by kernel_rfl)
end Go.Proofs.YtmjgjmaljdgcpaaGreatDoor

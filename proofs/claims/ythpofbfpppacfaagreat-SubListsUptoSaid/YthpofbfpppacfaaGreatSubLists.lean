/- SubLists: where what it reads is of bulk at most 1048576, it answers true. -/
import Derived.Test.YthpofbfpppacfaaGreatMach
import Derived.Test.YthpofbfpppacfaaGreatRows
import Derived.WalkKit
import Derived.Carry
import Derived.ProofKit
import Derived.OpenShut
import Derived.Deep.DeepHandedRow
import Derived.Lay
import Derived.LaidOnce
set_option maxRecDepth 100000
set_option linter.unusedVariables false
namespace Go.Proofs.YthpofbfpppacfaaGreat
open Go Go.Ag
open Go.ChangeShapes Go.WideShapes Go.ChangeAt Go.RowKit
open Go.ChangeMaps (open_string shut_string)

theorem own : ownKnob Tryz.prog.godebug = none := by kernel_rfl

theorem walk (s t : ByteArray) (w : World) (hst : startOK w w.heap.size) (hs : s.data.toList.length ≤ 2 ^ 31) (ht : t.data.toList.length ≤ 2 ^ 31) :
    Calls Tryz.prog 3 #[.string s, .string t] w fun e w' => e = .returned (.bool true) ∧ Below w.heap.size w w' := by
  have e1 : (⟨s.data.toList.toArray⟩ : ByteArray) = s := by cases s; simp
  have e2 : (⟨t.data.toList.toArray⟩ : ByteArray) = t := by cases t; simp
  have h := (SubLists_spec fns s.data.toList t.data.toList hs ht).calls (vs := [.string ⟨s.data.toList.toArray⟩, .string ⟨t.data.toList.toArray⟩]) hst (.cons _ _ _ _ (.str _) (.cons _ _ _ _ (.str _) .nil))
  rw [e1, e2] at h
  exact h.mono fun e w' ⟨v, g, e1, e2, e3⟩ => ⟨by rw [e1, rep_bool e2], e3⟩

theorem start_of {W : World} (hsh : W.ShapedOpen Tryz.prog) : startOK W W.heap.size := by
  obtain ⟨m, hm⟩ := Tryz.laysM145.s1_3 W hsh
  have hm : W.cell? ⟨0, 0, none⟩ = some (.int .i64 m) := hm
  exact ⟨cell_lt hm, m, hm⟩

set_option maxHeartbeats 1000000 in
theorem lifted (os : Os) (started : os.Started) (H : Type) (enc : TypeId × Value → H) (F : Stop.Interp) :
    ReturnsInHanded {} Tryz.checked os 3 .any ((Rows.OpenSpec.upto Rows.subListsSpec).preRow enc Tryz.prog Tryz.f3 Rows.subListsUptoRow.domain false Rows.subListsUptoRow.laid) (((Rows.OpenSpec.upto Rows.subListsSpec).at F).post enc Tryz.prog Tryz.f3 false true false false) := by
  refine returnsInHanded_of_row (C := Tryz.checked) (s := Rows.OpenSpec.upto Rows.subListsSpec) own started (by kernel_rfl) Tryz.func3 ?_ ?_
  · obtain ⟨w, tape, i, k1, k2, k3, k4, ⟨⟨⟨k5, k6⟩, k7⟩, k8⟩⟩ := ChangeSpec.witness_shaped (enc := enc) (C := Tryz.checked) (os := os) (f := 3) (fn := Tryz.f3) (s := Rows.subListsSpec) (conds := Rows.subListsUptoRow.domain) (apart := false) (X := fun w a => laidMetH Tryz.prog Rows.subListsUptoRow.laid w ∧ a = #[.string ⟨#[]⟩, .string ⟨#[]⟩]) false (World.laidAll Tryz.prog os Rows.subListsUptoRow.laid) #[.string ⟨#[]⟩, .string ⟨#[]⟩] 8 (World.laidAll_os _ _ _)
      (World.shaped_of_ZipB (by kernel_rfl) (by kernel_rfl)) (by kernel_rfl) (by kernel_rfl) (by kernel_rfl)
      ⟨by rw [MakeChecks.laidMetH_plain _ _ _ (by kernel_rfl)]; exact laidMet_laidAll _ (by kernel_rfl) (by kernel_rfl), rfl⟩
    refine ⟨w, tape, i, k1, k2, k3, k4, ⟨⟨?_, k6.1⟩, k7⟩, k8⟩
    obtain ⟨ds, gs, before, q1, q2⟩ := k5
    refine (OpenSpec.pre_some (k := Rows.uptoSmall) rfl _ _ _ _).2 ⟨ds, gs, before, q1, q2, ?_⟩
    obtain ⟨p, q, hA0, hV, _, _, _⟩ := q1
    have hA : DataW.TrodAll enc Tryz.prog (w.forCall tape i).memory 0 (fun _ => true) true Tryz.f3.params.toList i.args.toList ds p := hA0
    rw [Tryz.params3, k6.2] at hA
    obtain ⟨v0, v1, d0, d1, p0, p1, e1, rfl, _, h0, h1⟩ := trodAll_two hA
    obtain ⟨rfl, rfl⟩ := trodVars_none hV
    obtain ⟨rfl, rfl⟩ : v0 = .string ⟨#[]⟩ ∧ v1 = .string ⟨#[]⟩ := by simpa [eq_comm] using e1
    obtain ⟨rfl, _⟩ := DataW.Trod.unique h0 (shut_string (s := ⟨#[]⟩) Tryz.underlying9 (by decide))
    obtain ⟨rfl, _⟩ := DataW.Trod.unique h1 (shut_string (s := ⟨#[]⟩) Tryz.underlying9 (by decide))
    rfl
  intro W base args ds gs before hval hW _ hk _ hL hsh _
  have hst := start_of hsh
  have hW' := hW
  obtain ⟨p, q, hA0, hV, rfl, hfz, hnd⟩ := hW
  have hA : DataW.TrodAll enc Tryz.prog W 0 (fun _ => true) true Tryz.f3.params.toList args.toList ds p := hA0
  rw [Tryz.params3] at hA hval
  obtain ⟨v0, v1, d0, d1, p0, p1, rfl, rfl, rfl, h0, h1⟩ := trodAll_two hA
  obtain ⟨rfl, rfl⟩ := trodVars_none hV
  have hbulk := hk _ rfl
  obtain ⟨s, rfl, rfl, rfl, hs⟩ := open_string Tryz.underlying9 (hval 0 9 v0 rfl rfl) h0
  obtain ⟨t, rfl, rfl, rfl, ht⟩ := open_string Tryz.underlying9 (hval 1 9 v1 rfl rfl) h1
  have hb : s.data.toList.length ≤ 1048576 ∧ t.data.toList.length ≤ 1048576 := by
    have hbulk : decide (Rows.uptoBulkAll _ ≤ 1048576) = true := hbulk
    have hbulk := of_decide_eq_true hbulk
    simp only [List.cons_append, List.nil_append, Rows.uptoBulkAll, Rows.uptoBulk] at hbulk
    exact ⟨by omega, by omega⟩
  simp only [List.append_nil] at hW'
  refine (walk s t W hst (by omega) (by omega)).mono fun e W' ⟨he, hbl⟩ => ?_
  subst he
  exact ⟨_, rfl, _, _, _, _, _, _, hW', trodAll_mk1 (shut_bool Tryz.underlying4 _), trodAll_mk2 (shut_string Tryz.underlying9 hs) (shut_string Tryz.underlying9 ht), rfl, hbl.frame _, fun h => by cases h⟩

theorem said : Rows.SubListsUptoSaid :=
  OpenClaim.holds_of_cond 3 Tryz.f3 rfl rfl rfl rfl rfl rfl rfl ⟨rfl, rfl, rfl, rfl, rfl⟩ rfl rfl rfl rfl rfl (by kernel_rfl) Tryz.func3 (by kernel_rfl)
    (of_decide_eq_true (by kernel_rfl)) (by unfold Func.isWrapper; first | (rw [if_pos (by decide +kernel)]; kernel_rfl) | (rw [if_neg (by decide +kernel)]; exact ⟨rfl, rfl⟩))
    (fun os started H enc _ F => by rw [OpenClaim.pre_eq_preRow]; exact lifted os started H enc F)

end Go.Proofs.YthpofbfpppacfaaGreat

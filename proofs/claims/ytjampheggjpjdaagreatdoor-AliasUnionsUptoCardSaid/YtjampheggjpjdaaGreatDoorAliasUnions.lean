/- AliasUnions: whatever the texts, where what it reads is of bulk at most 1048576: the law answers true, and each argument reads behind the call as it read before. Condition: that bulk. -/
import Derived.Test.YtjampheggjpjdaaGreatDoorMachU
import Derived.Test.YtjampheggjpjdaaGreatDoorCards
import Derived.Test.YtjampheggjpjdaaGreatDoorTie
import Derived.WalkKit
import Derived.Carry
import Derived.ProofKit
import Derived.OpenShut
import Derived.Deep.DeepHandedRow
import Derived.Lay
import Derived.LaidOnce
set_option maxRecDepth 100000
namespace Go.Proofs.YtjampheggjpjdaaGreatDoor
open Go Go.Ag
open Go.ChangeShapes Go.WideShapes Go.ChangeAt Go.RowKit
open Go.ChangeMaps (open_string shut_string)
theorem own : ownKnob Tryz.prog.godebug = none := by kernel_rfl
theorem val_str (s : ByteArray) : (⟨s.data.toList.toArray⟩ : ByteArray) = s := by cases s; simp
theorem walk (s0 s1 s2 : ByteArray) (w : World) (hst : startOK w w.heap.size) (hs0 : s0.data.toList.length ≤ 1048576) (hs1 : s1.data.toList.length ≤ 1048576) (hs2 : s2.data.toList.length ≤ 1048576) :
    Calls Tryz.prog 4 #[.string s0, .string s1, .string s2] w fun e w' => e = .returned (.bool true) ∧ Below w.heap.size w w' := by
  have h := (zX fns s0.data.toList s1.data.toList s2.data.toList hs1 hs2).calls (vs := [.string ⟨s0.data.toList.toArray⟩, .string ⟨s1.data.toList.toArray⟩, .string ⟨s2.data.toList.toArray⟩]) hst (.cons _ _ _ _ (.str _) (.cons _ _ _ _ (.str _) (.cons _ _ _ _ (.str _) .nil)))
  rw [val_str, val_str, val_str] at h
  exact h.mono fun e w' ⟨v, g, e1, e2, e3⟩ => ⟨by rw [e1, jZ e2], e3⟩
theorem start_of {W : World} (hsh : W.ShapedOpen Tryz.prog) : startOK W W.heap.size := by
  obtain ⟨m, hm⟩ := Tryz.laysM145.s1_3 W hsh
  have hm : W.cell? ⟨0, 0, none⟩ = some (.int .i64 m) := hm
  exact ⟨MZ hm, m, hm⟩
set_option maxHeartbeats 1000000 in
theorem lifted (os : Os) (started : os.Started) (H : Type) (enc : TypeId × Value → H) (F : Stop.Interp) :
    ReturnsInHanded {} Tryz.checked os 4 .any ((Rows.OpenSpec.upto Rows.aliasUnionsSpec).preRow enc Tryz.prog Tryz.f4 Rows.aliasUnionsUptoRow.domain false Rows.aliasUnionsUptoRow.laid) (((Rows.OpenSpec.upto Rows.aliasUnionsSpec).at F).post enc Tryz.prog Tryz.f4 false true false false) := by
  refine returnsInHanded_of_row (C := Tryz.checked) (s := Rows.OpenSpec.upto Rows.aliasUnionsSpec) own started (by kernel_rfl) Tryz.func4 ?_ ?_
  · obtain ⟨w, tape, i, k1, k2, k3, k4, ⟨⟨⟨k5, k6⟩, k7⟩, k8⟩⟩ := ChangeSpec.witness_shaped (enc := enc) (C := Tryz.checked) (os := os) (f := 4) (fn := Tryz.f4) (s := Rows.aliasUnionsSpec) (conds := Rows.aliasUnionsUptoRow.domain) (apart := false) (X := fun w a => laidMetH Tryz.prog Rows.aliasUnionsUptoRow.laid w ∧ a = #[.string ⟨#[]⟩, .string ⟨#[]⟩, .string ⟨#[]⟩]) false (World.laidAll Tryz.prog os Rows.aliasUnionsUptoRow.laid) #[.string ⟨#[]⟩, .string ⟨#[]⟩, .string ⟨#[]⟩] 8 (World.laidAll_os _ _ _)
      (World.shaped_of_ZipB (by kernel_rfl) (by kernel_rfl)) (by kernel_rfl) (by kernel_rfl) (by kernel_rfl)
      ⟨by rw [MakeChecks.laidMetH_plain _ _ _ (by kernel_rfl)]; exact laidMet_laidAll _ (by kernel_rfl) (by kernel_rfl), rfl⟩
    refine ⟨w, tape, i, k1, k2, k3, k4, ⟨⟨?_, k6.1⟩, k7⟩, k8⟩
    obtain ⟨ds, gs, before, q1, q2⟩ := k5
    refine (OpenSpec.pre_some (k := Rows.uptoSmall) rfl _ _ _ _).2 ⟨ds, gs, before, q1, q2, ?_⟩
    obtain ⟨p, q, hA0, hV, _, _, _⟩ := q1
    have hA : DataW.TrodAll enc Tryz.prog (w.forCall tape i).memory 0 (fun _ => true) true Tryz.f4.params.toList i.args.toList ds p := hA0
    rw [Tryz.params4, k6.2] at hA
    obtain ⟨v0, v1, v2, d0, d1, d2, p0, p1, p2, e1, rfl, _, h0, h1, h2⟩ := trodAll_three hA
    obtain ⟨rfl, rfl⟩ := trodVars_none hV
    obtain ⟨rfl, rfl, rfl⟩ : v0 = .string ⟨#[]⟩ ∧ v1 = .string ⟨#[]⟩ ∧ v2 = .string ⟨#[]⟩ := by simpa [eq_comm] using e1
    obtain ⟨rfl, _⟩ := DataW.Trod.unique h0 (shut_string (s := ⟨#[]⟩) Tryz.underlying9 (by decide))
    obtain ⟨rfl, _⟩ := DataW.Trod.unique h1 (shut_string (s := ⟨#[]⟩) Tryz.underlying9 (by decide))
    obtain ⟨rfl, _⟩ := DataW.Trod.unique h2 (shut_string (s := ⟨#[]⟩) Tryz.underlying9 (by decide))
    rfl
  intro W base args ds gs before hval hW _ hk _ hL hsh _
  have hst := start_of hsh
  have hW' := hW
  obtain ⟨p, q, hA0, hV, rfl, hfz, hnd⟩ := hW
  have hA : DataW.TrodAll enc Tryz.prog W 0 (fun _ => true) true Tryz.f4.params.toList args.toList ds p := hA0
  rw [Tryz.params4] at hA hval
  obtain ⟨v0, v1, v2, d0, d1, d2, p0, p1, p2, rfl, rfl, rfl, h0, h1, h2⟩ := trodAll_three hA
  obtain ⟨rfl, rfl⟩ := trodVars_none hV
  have hbulk := hk _ rfl
  obtain ⟨s0, rfl, rfl, rfl, hs0⟩ := open_string Tryz.underlying9 (hval 0 9 v0 rfl rfl) h0
  obtain ⟨s1, rfl, rfl, rfl, hs1⟩ := open_string Tryz.underlying9 (hval 1 9 v1 rfl rfl) h1
  obtain ⟨s2, rfl, rfl, rfl, hs2⟩ := open_string Tryz.underlying9 (hval 2 9 v2 rfl rfl) h2
  have hb : s0.data.toList.length ≤ 1048576 ∧ s1.data.toList.length ≤ 1048576 ∧ s2.data.toList.length ≤ 1048576 := by
    have hbulk : decide (Rows.uptoBulkAll _ ≤ 1048576) = true := hbulk
    have hbulk := of_decide_eq_true hbulk
    simp only [List.cons_append, List.nil_append, Rows.uptoBulkAll, Rows.uptoBulk] at hbulk
    exact ⟨by omega, by omega, by omega⟩
  simp only [List.append_nil] at hW'
  refine (walk s0 s1 s2 W hst hb.1 hb.2.1 hb.2.2).mono fun e W' ⟨he, hbl⟩ => ?_
  subst he
  exact ⟨_, rfl, _, _, _, _, _, _, hW', trodAll_mk1 (shut_bool Tryz.underlying4 _), trodAll_mk3 (shut_string Tryz.underlying9 hs0) (shut_string Tryz.underlying9 hs1) (shut_string Tryz.underlying9 hs2), rfl, hbl.frame _, fun h => by cases h⟩
theorem said : Rows.AliasUnionsUptoSaid :=
  OpenClaim.holds_of_cond 4 Tryz.f4 rfl rfl rfl rfl rfl rfl rfl ⟨rfl, rfl, rfl, rfl, rfl⟩ rfl rfl rfl rfl rfl (by kernel_rfl) Tryz.func4 (by kernel_rfl)
    (of_decide_eq_true (by kernel_rfl)) (by unfold Func.isWrapper; first | (rw [if_pos (by decide +kernel)]; kernel_rfl) | (rw [if_neg (by decide +kernel)]; exact ⟨rfl, rfl⟩))
    (fun os started H enc _ F => by rw [OpenClaim.pre_eq_preRow]; exact lifted os started H enc F)
theorem plain (f : FuncId) (fn : Func) (hf : Tryz.pinned.checked.prog.funcNamed "cupel/cupellaw08.AliasUnions" = some f) (hfn : Tryz.pinned.checked.prog.funcs[f]? = some fn) :
    true = Tryz.pinned.checked.prog.looks [] ∧ ∀ (j : Nat) t, fn.params[j]? = some t → Tryz.pinned.checked.prog.wantsStandIn t = false := by
  obtain rfl : f = 4 := Option.some.inj ((show Tryz.prog.funcNamed "cupel/cupellaw08.AliasUnions" = some 4 by kernel_rfl).symm.trans hf) |>.symm
  obtain rfl : fn = Tryz.f4 := (Option.some.inj (Tryz.func4.symm.trans hfn)).symm
  refine ⟨by kernel_rfl, fun j t ht => ?_⟩
  rw [Tryz.params4] at ht
  obtain rfl : t = 9 := by simpa using Array.mem_of_getElem? ht
  exact (show Tryz.prog.wantsStandIn 9 = false by kernel_rfl)
theorem aliasUnions_holds : Rows.AliasUnionsUptoCardSaid :=
  Claim7.holds_tied_plain_at .later [] _ _ _ _ said (fun _ h => by cases h) (by kernel_rfl) (fun _ h => by cases h) aliasUnionsUpto_row_tie rfl ⟨rfl, rfl⟩ (by kernel_rfl) rfl plain (by kernel_rfl)
end Go.Proofs.YtjampheggjpjdaaGreatDoor

/- PartsNames: whatever the texts: the law answers true, and each argument reads behind the call as it read before. No condition. -/
import Derived.Test.YtlimibffbaihfaaGreatDoorMachN
import Derived.Test.YtlimibffbaihfaaGreatDoorCards
import Derived.Test.YtlimibffbaihfaaGreatDoorTie
import Derived.WalkKit
import Derived.Carry
import Derived.ProofKit
import Derived.OpenShut
import Derived.Deep.DeepHandedRow
import Derived.Lay
import Derived.LaidOnce
import Derived.Test.YtlimibffbaihfaaGreatDoorTextI
set_option maxRecDepth 100000
namespace Go.Proofs.YtlimibffbaihfaaGreatDoor
open Go Go.Ag
open Go.ChangeShapes Go.WideShapes Go.ChangeAt Go.RowKit
open Go.ChangeMaps (open_string shut_string)
theorem own : ownKnob Tryz.prog.godebug = none := by kernel_rfl
theorem val_str (s : ByteArray) : (⟨s.data.toList.toArray⟩ : ByteArray) = s := by cases s; simp
theorem walk (s0 : ByteArray) (l : List Bytes) (v1 : Value) (a : Nat) (ha : a < 256) (w : World) (hst : startOK w w.heap.size) (hv : Rep (lnk startOK) (aA.start w) v1 (.lst (aJ l) .none)) :
    Calls Tryz.prog 4 #[.string s0, v1, .int .u8 a] w fun e w' => e = .returned (.bool true) ∧ Below w.heap.size w w' := by
  have h := (Bn fns s0.data.toList l a ha).calls (vs := [.string ⟨s0.data.toList.toArray⟩, v1, .int .u8 a]) hst (.cons _ _ _ _ (.str _) (.cons _ _ _ _ hv (.cons _ _ _ _ (.int _ _) .nil)))
  rw [val_str] at h
  exact h.mono fun e w' ⟨v, g, e1, e2, e3⟩ => ⟨by rw [e1, kr e2], e3⟩
theorem start_of {W : World} (hsh : W.ShapedOpen Tryz.prog) : startOK W W.heap.size := by
  obtain ⟨m, hm⟩ := Tryz.laysM145.s1_3 W hsh
  have hm : W.cell? ⟨0, 0, none⟩ = some (.int .i64 m) := hm
  exact ⟨N8 hm, m, hm⟩
set_option maxHeartbeats 1000000 in
theorem lifted (os : Os) (started : os.Started) (H : Type) (enc : TypeId × Value → H) (F : Stop.Interp) :
    ReturnsInHanded {} Tryz.checked os 4 .any ((OpenSpec.ofChange Rows.partsNamesSpec).preRow enc Tryz.prog Tryz.f4 Rows.partsNamesRow.domain false Rows.partsNamesRow.laid) (((OpenSpec.ofChange Rows.partsNamesSpec).at F).post enc Tryz.prog Tryz.f4 false true false false) := by
  refine returnsInHanded_of_row (C := Tryz.checked) (s := OpenSpec.ofChange Rows.partsNamesSpec) own started (by kernel_rfl) Tryz.func4
    (ChangeSpec.witness_shaped (enc := enc) (C := Tryz.checked) (os := os) (s := Rows.partsNamesSpec) (conds := Rows.partsNamesRow.domain) (apart := false) (X := fun w _ => laidMetH Tryz.prog Rows.partsNamesRow.laid w) false (World.laidAll Tryz.prog os Rows.partsNamesRow.laid) #[.string ⟨#[]⟩, .slice none 0 0, .int .u8 0] 8 (World.laidAll_os _ _ _)
      (World.shaped_of_ZipB (by kernel_rfl) (by kernel_rfl)) (by kernel_rfl) (by kernel_rfl) (by kernel_rfl)
      (by rw [MakeChecks.laidMetH_plain _ _ _ (by kernel_rfl)]; exact laidMet_laidAll _ (by kernel_rfl) (by kernel_rfl))) ?_
  intro W base args ds gs before hval hW _ _ _ hL hsh _
  have hst := start_of hsh
  have hW' := hW
  obtain ⟨p, q, hA0, hV, rfl, hfz, hnd⟩ := hW
  have hA : DataW.TrodAll enc Tryz.prog W 0 (fun _ => true) true Tryz.f4.params.toList args.toList ds p := hA0
  rw [Tryz.params4] at hA hval
  obtain ⟨v0, v1, v2, d0, d1, d2, p0, p1, p2, rfl, rfl, rfl, h0, h1, h2⟩ := trodAll_three hA
  obtain ⟨rfl, rfl⟩ := trodVars_none hV
  obtain ⟨s0, rfl, rfl, rfl, hs0⟩ := open_string Tryz.underlying9 (hval 0 9 v0 rfl rfl) h0
  obtain ⟨n, rfl, rfl, rfl, hn⟩ := open_int Tryz.underlying5 (hval 2 5 v2 rfl rfl) h2
  obtain ⟨sa, XT, scap, rfl⟩ := okWide_slice Tryz.underlying29 (hval 1 29 v1 rfl rfl)
  have hlt : ∀ x ∈ p1, x.block < W.heap.size := fun x hx => DataW.TrodAll.lt hA0 x (by simp [hx])
  have h1' := h1
  obtain ⟨fuel, h1'⟩ := h1'
  obtain ⟨l, hrep⟩ := open_strs (L := lnk startOK) Tryz.underlying29 Tryz.underlying9 (by kernel_rfl) h1'
  have hn' : 0 ≤ n ∧ n ≤ 255 := by
    have h := hn
    simp only [Lit.wf, Bool.and_eq_true, decide_eq_true_eq] at h
    exact h
  obtain ⟨a, rfl⟩ : ∃ a : Nat, n = (a : Int) := ⟨n.toNat, by omega⟩
  simp only [List.append_nil, List.nil_append] at hW'
  refine (walk s0 l _ a (by omega) W hst hrep).mono fun e W' ⟨he, hbl⟩ => ?_
  subst he
  have hagain := Below.trod (by kernel_rfl) (by kernel_rfl) (of_decide_eq_true (by kernel_rfl)) h1 hbl hlt
  have hall := trodAll_mk3 (shut_string Tryz.underlying9 hs0) hagain (shut_int Tryz.underlying5 hn)
  simp only [List.append_nil, List.nil_append] at hall
  exact ⟨_, rfl, _, _, _, _, _, _, hW', trodAll_mk1 (shut_bool Tryz.underlying4 _), hall, rfl, hbl.frame _, fun h => by cases h⟩
theorem said : Rows.PartsNamesSaid :=
  OpenClaim.holds_of_cond 4 Tryz.f4 rfl rfl rfl rfl rfl rfl rfl ⟨rfl, rfl, rfl, rfl, rfl⟩ rfl rfl rfl rfl rfl (by kernel_rfl) Tryz.func4 (by kernel_rfl)
    (of_decide_eq_true (by kernel_rfl)) (by unfold Func.isWrapper; first | (rw [if_pos (by decide +kernel)]; kernel_rfl) | (rw [if_neg (by decide +kernel)]; exact ⟨rfl, rfl⟩))
    (fun os started H enc _ F => by rw [OpenClaim.pre_eq_preRow]; exact lifted os started H enc F)
theorem plain (f : FuncId) (fn : Func) (hf : Tryz.pinned.checked.prog.funcNamed "cupel/cupellaw10.PartsNames" = some f) (hfn : Tryz.pinned.checked.prog.funcs[f]? = some fn) :
    true = Tryz.pinned.checked.prog.looks [] ∧ ∀ (j : Nat) t, fn.params[j]? = some t → Tryz.pinned.checked.prog.wantsStandIn t = false := by
  obtain rfl : f = 4 := Option.some.inj ((show Tryz.prog.funcNamed "cupel/cupellaw10.PartsNames" = some 4 by kernel_rfl).symm.trans hf) |>.symm
  obtain rfl : fn = Tryz.f4 := (Option.some.inj (Tryz.func4.symm.trans hfn)).symm
  refine ⟨by kernel_rfl, fun j t ht => ?_⟩
  rw [Tryz.params4] at ht
  have h : t = 9 ∨ t = 29 ∨ t = 5 := by simpa using Array.mem_of_getElem? ht
  rcases h with rfl | rfl | rfl
  · exact (show Tryz.prog.wantsStandIn 9 = false by kernel_rfl)
  · exact (show Tryz.prog.wantsStandIn 29 = false by kernel_rfl)
  · exact (show Tryz.prog.wantsStandIn 5 = false by kernel_rfl)
theorem partsNames_holds : Rows.PartsNamesCardSaid :=
  Claim7.holds_tied_plain_at .later [] _ _ _ _ said (fun _ h => by cases h) (by kernel_rfl) (fun _ h => by cases h) partsNames_row_tie rfl ⟨rfl, rfl⟩ (by kernel_rfl) rfl plain (by kernel_rfl)
end Go.Proofs.YtlimibffbaihfaaGreatDoor

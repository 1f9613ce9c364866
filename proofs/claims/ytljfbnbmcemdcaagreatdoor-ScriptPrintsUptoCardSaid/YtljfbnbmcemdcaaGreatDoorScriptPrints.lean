/- ScriptPrints: for any steps of bulk at most 1048576: those that have lines are printed as their lines, and parsed as they were. -/
import Derived.Test.YtljfbnbmcemdcaaGreatDoorMach
import Derived.Test.YtljfbnbmcemdcaaGreatDoorCards
import Derived.Test.YtljfbnbmcemdcaaGreatDoorTie
import Derived.WalkKit
import Derived.Test.YtljfbnbmcemdcaaGreatDoorAgArgs
import Derived.Carry
import Derived.ProofKit
import Derived.OpenShut
import Derived.Deep.DeepHandedRow
import Derived.Lib.LaidTab
import Derived.Lib.LaidU8
import Derived.Stop.LaidErr
import Derived.Lay
import Derived.LaidOnce
set_option maxRecDepth 100000
set_option linter.unusedVariables false
namespace Go.Proofs.YtljfbnbmcemdcaaGreatDoor
open Go Go.Ag
open Go.ChangeShapes Go.WideShapes Go.ChangeAt Go.RowKit
open Go.ChangeMaps (open_string shut_string)

theorem own : ownKnob Tryz.prog.godebug = none := by kernel_rfl

/-- A list's variable reads as integers. -/
theorem tab_of_reads {P : Program} {W : World} {name : String} {k : IntKind} {zs : List Int} {g : Nat} {t e : TypeId} {n : Nat}
    (hg : P.globalNamed name = some g) (hty : (P.globals[g]?).map (·.type) = some t) (ht : P.underlying t = some (.array n e)) (he : P.underlying e = some (.int k)) (hce : P.cellsOf e = 1) (hct : P.cellsOf t = n)
    (h : Lib.VarReads P W name (Lib.tabData k zs)) : Lib.TabIs P W name k zs := by
  obtain ⟨g', t', cs, fuel, p, hg', ht', hvar, hd⟩ := h
  obtain rfl := Option.some.inj (hg.symm.trans hg')
  obtain rfl := Option.some.inj (hty.symm.trans ht')
  unfold Lib.TabIs
  rw [hvar, ← Lib.cells_of_tab ht he hce hct hd]

/-- The call, from a world that bears what the row lists. -/
theorem walk (l : List StepA) (v : Value) (w : World) (hst : startOK w w.heap.size) (hv : Rep (lnk startOK) (Ghost.start w) v (.lst (l.map StepA.av) .none)) (hl : l.length ≤ 2 ^ 32) (ht : ∀ x ∈ l, x.text.length ≤ 2 ^ 32 ∧ x.name.length ≤ 2 ^ 32)
    (hn : ∀ x ∈ l, -9223372036854775808 ≤ x.n ∧ x.n ≤ 9223372036854775807) :
    Calls Tryz.prog 3 #[v] w fun e w' => e = .returned (.bool true) ∧ Below w.heap.size w w' := by
  have h := (scriptPrints_spec fns prFns libIs (h5 _) (h4 _) l hl ht hn).calls (vs := [v]) hst (.cons _ _ _ _ hv .nil)
  exact h.mono fun e w' ⟨v, g, e1, e2, e3⟩ => ⟨by rw [e1, rep_bool e2], e3⟩

theorem bulk_steps {H : Type} (sp : List (DataW H)) : ∀ l : List StepA, l.length ≤ Rows.uptoBulkAll (l.map (StepA.datum (H := H))) ∧ ∀ x ∈ l, x.text.length + x.name.length ≤ Rows.uptoBulkAll (l.map (StepA.datum (H := H)))
  | [] => ⟨by simp, fun x hx => by cases hx⟩
  | y :: l => by
    obtain ⟨h1, h2⟩ := bulk_steps sp l
    have hy : Rows.uptoBulk (StepA.datum (H := H) y) = y.name.length + y.text.length + 5 := by
      simp only [StepA.datum, Rows.uptoBulk, Rows.uptoBulkAll]
      omega
    simp only [List.map_cons, Rows.uptoBulkAll, hy, List.length_cons]
    refine ⟨by omega, fun x hx => ?_⟩
    rcases List.mem_cons.1 hx with rfl | hx
    · omega
    · have := h2 x hx; omega

theorem gP : Tryz.prog.globalNamed "internal/strconv.uint64pow10" = some 3 := by kernel_rfl
theorem gS : Tryz.prog.globalNamed "strconv.ErrSyntax" = some 1 := by kernel_rfl
theorem gR : Tryz.prog.globalNamed "strconv.ErrRange" = some 2 := by kernel_rfl

theorem row104 (u : TypeId) (h : Tryz.prog.typeName? 3 u = some "*errors.errorString") : u = 144 :=
  typeName_ptr_named (nm := "errors.errorString") (by rw [show "*" ++ "errors.errorString" = "*errors.errorString" by decide]; kernel_rfl) (by kernel_rfl) (by decide) u (by rw [show "*" ++ "errors.errorString" = "*errors.errorString" by decide]; exact h)

/-- What the row lists gives what the library's contracts ask. -/
theorem start_of {W : World} (hL : laidMet Tryz.prog Rows.scriptPrintsUptoRow.laid W) (hsh : W.ShapedOpen Tryz.prog) : startOK W W.heap.size := by
  have hP : Lib.TabIs Tryz.prog W "internal/strconv.uint64pow10" .u64 Lib.pow10Tab := tab_of_reads gP (t := 148) (e := 129) (n := 20) (by kernel_rfl) Tryz.underlying148 Tryz.underlying129 (by kernel_rfl) (by kernel_rfl) (Lib.laidMet.reads hL.tail.tail (.head _))
  obtain ⟨m, hm⟩ := Tryz.laysM145.s1_3 W hsh
  have hm : W.cell? ⟨0, 0, none⟩ = some (.int .i64 m) := hm
  obtain ⟨a1, s1, hv1, -, -, -⟩ := laid_sentinel hL.tail.tail.tail.tail gR (ti := 51) (tp := 144) (te := 146) (ts := 9) (by kernel_rfl) Tryz.underlying51 row104 Tryz.underlying144 Tryz.underlying146 rfl rfl Tryz.underlying9 (by kernel_rfl) (by kernel_rfl)
  obtain ⟨a0, s0, hv0, -, -, -⟩ := laid_sentinel hL.tail.tail.tail.tail.tail gS (ti := 51) (tp := 144) (te := 146) (ts := 9) (by kernel_rfl) Tryz.underlying51 row104 Tryz.underlying144 Tryz.underlying146 rfl rfl Tryz.underlying9 (by kernel_rfl) (by kernel_rfl)
  have hc0 : W.cell? ⟨1, 0, none⟩ = some (.iface 144 (.pointer (some a0))) := by have h0 := World.var?_cell gS hv0 0; simpa using h0
  have hc1 : W.cell? ⟨2, 0, none⟩ = some (.iface 144 (.pointer (some a1))) := by have h0 := World.var?_cell gR hv1 0; simpa using h0
  exact ⟨⟨cell_lt hm, m, hm⟩, Lib.tabBelow_of_tabIs hP, ⟨cell_lt hc0, _, hc0, .inr ⟨_, _, rfl⟩⟩, ⟨cell_lt hc1, _, hc1, .inr ⟨_, _, rfl⟩⟩⟩

set_option maxRecDepth 100000 in
theorem lifted (os : Os) (started : os.Started) (H : Type) (enc : TypeId × Value → H) (F : Stop.Interp) :
    ReturnsInHanded {} Tryz.checked os 3 .any ((Rows.OpenSpec.upto Rows.scriptPrintsSpec).preRow enc Tryz.prog Tryz.f3 Rows.scriptPrintsUptoRow.domain false Rows.scriptPrintsUptoRow.laid) (((Rows.OpenSpec.upto Rows.scriptPrintsSpec).at F).post enc Tryz.prog Tryz.f3 false true false false) := by
  refine returnsInHanded_of_row (C := Tryz.checked) (s := Rows.OpenSpec.upto Rows.scriptPrintsSpec) own started (by kernel_rfl) Tryz.func3 ?_ ?_
  · obtain ⟨w, tape, i, k1, k2, k3, k4, ⟨⟨⟨k5, k6⟩, k7⟩, k8⟩⟩ := ChangeSpec.witness_shaped (enc := enc) (C := Tryz.checked) (os := os) (f := 3) (fn := Tryz.f3) (s := Rows.scriptPrintsSpec) (conds := Rows.scriptPrintsUptoRow.domain) (apart := false) (X := fun w a => laidMetH Tryz.prog Rows.scriptPrintsUptoRow.laid w ∧ a = #[.slice none 0 0]) false (World.laidAll Tryz.prog os Rows.scriptPrintsUptoRow.laid) #[.slice none 0 0] 8 (World.laidAll_os _ _ _)
      (World.shaped_of_ZipB (by kernel_rfl) (by kernel_rfl)) (by kernel_rfl) (by kernel_rfl) (by kernel_rfl)
      ⟨by rw [MakeChecks.laidMetH_plain _ _ _ (by kernel_rfl)]; exact laidMet_laidAll _ (by kernel_rfl) (by kernel_rfl), rfl⟩
    refine ⟨w, tape, i, k1, k2, k3, k4, ⟨⟨?_, k6.1⟩, k7⟩, k8⟩
    obtain ⟨ds, gs, before, q1, q2⟩ := k5
    refine (OpenSpec.pre_some (k := Rows.uptoSmall) rfl _ _ _ _).2 ⟨ds, gs, before, q1, q2, ?_⟩
    obtain ⟨p, q, hA0, hV, _, _, _⟩ := q1
    have hA : DataW.TrodAll enc Tryz.prog (w.forCall tape i).memory 0 (fun _ => true) true Tryz.f3.params.toList i.args.toList ds p := hA0
    rw [Tryz.params3, k6.2] at hA
    obtain ⟨v0, d0, e1, rfl, h0⟩ := trodAll_one hA
    obtain ⟨rfl, rfl⟩ := trodVars_none hV
    obtain rfl : v0 = .slice none 0 0 := by simpa using e1.symm
    obtain ⟨rfl, _⟩ := DataW.Trod.unique h0 (shut_slice_nil Tryz.underlying22)
    rfl
  intro W base args ds gs before hval hW _ hk _ hL hsh _
  rw [MakeChecks.laidMetH_plain _ _ _ (by kernel_rfl)] at hL
  have hst := start_of hL hsh
  have hW' := hW
  obtain ⟨p, q, hA0, hV, rfl, hfz, hnd⟩ := hW
  have hA : DataW.TrodAll enc Tryz.prog W 0 (fun _ => true) true Tryz.f3.params.toList args.toList ds p := hA0
  rw [Tryz.params3] at hA hval
  obtain ⟨v0, d0, rfl, rfl, h0⟩ := trodAll_one hA
  obtain ⟨rfl, rfl⟩ := trodVars_none hV
  have hbulk := hk _ rfl
  obtain ⟨sa, slen, scap, rfl⟩ := okWide_slice Tryz.underlying22 (hval 0 22 v0 rfl rfl)
  obtain ⟨fuel, h0'⟩ := h0
  obtain ⟨l, hrep, hn, hd⟩ := open_steps (L := lnk startOK) Tryz.underlying22 Tryz.underlying28 (by kernel_rfl) rfl rfl rfl rfl (by kernel_rfl) (by kernel_rfl) (by kernel_rfl) (by kernel_rfl) Tryz.underlying3 Tryz.underlying9 Tryz.underlying9 Tryz.underlying3 h0'
  have hb : l.length ≤ 1048576 ∧ ∀ x ∈ l, x.text.length + x.name.length ≤ 1048576 := by
    have hbulk : decide (Rows.uptoBulkAll ([d0] ++ ([] : List (DataW H))) ≤ 1048576) = true := hbulk
    have hbulk := of_decide_eq_true hbulk
    rcases hd with ⟨_, rfl⟩ | ⟨sp, hd⟩
    · exact ⟨by simp, fun x hx => by cases hx⟩
    · obtain ⟨b1, b2⟩ := bulk_steps sp l
      have hd : d0 = .slice (l.map StepA.datum) sp := hd
      subst hd
      simp only [List.cons_append, List.nil_append, Rows.uptoBulkAll, Rows.uptoBulk] at hbulk
      exact ⟨by omega, fun x hx => by have := b2 x hx; omega⟩
  have h0 : DataW.Trod enc Tryz.prog W 0 (fun _ => true) true 22 (.slice sa slen scap) d0 p := ⟨fuel, h0'⟩
  have hlt : ∀ x ∈ p, x.block < W.heap.size := DataW.TrodAll.lt hA0
  simp only [List.append_nil] at hW'
  refine (walk l _ W hst hrep (by omega) (fun x hx => by have := hb.2 x hx; omega) hn).mono fun e W' ⟨he, hbl⟩ => ?_
  subst he
  have hagain := Below.trod (by kernel_rfl) (by kernel_rfl) (of_decide_eq_true (by kernel_rfl)) h0 hbl hlt
  exact ⟨_, rfl, _, _, _, _, _, _, hW', trodAll_mk1 (shut_bool Tryz.underlying4 _), trodAll_mk1 hagain, rfl, hbl.frame _, fun h => by cases h⟩

theorem said : Rows.ScriptPrintsUptoSaid :=
  OpenClaim.holds_of_cond 3 Tryz.f3 rfl rfl rfl rfl rfl rfl rfl ⟨rfl, rfl, rfl, rfl, rfl⟩ rfl rfl rfl rfl rfl (by kernel_rfl) Tryz.func3 (by kernel_rfl)
    (of_decide_eq_true (by kernel_rfl)) (by unfold Func.isWrapper; first | (rw [if_pos (by decide +kernel)]; kernel_rfl) | (rw [if_neg (by decide +kernel)]; exact ⟨rfl, rfl⟩))
    (fun os started H enc _ F => by rw [OpenClaim.pre_eq_preRow]; exact lifted os started H enc F)

theorem plain (f : FuncId) (fn : Func) (hf : Tryz.pinned.checked.prog.funcNamed "cupel/cupellaw21.ScriptPrints" = some f) (hfn : Tryz.pinned.checked.prog.funcs[f]? = some fn) :
    true = Tryz.pinned.checked.prog.looks [] ∧ ∀ (j : Nat) t, fn.params[j]? = some t → Tryz.pinned.checked.prog.wantsStandIn t = false := by
  obtain rfl : f = 3 := Option.some.inj ((show Tryz.prog.funcNamed "cupel/cupellaw21.ScriptPrints" = some 3 by kernel_rfl).symm.trans hf) |>.symm
  obtain rfl : fn = Tryz.f3 := (Option.some.inj (Tryz.func3.symm.trans hfn)).symm
  refine ⟨by kernel_rfl, fun j t ht => ?_⟩
  rw [Tryz.params3] at ht
  obtain rfl : t = 22 := by simpa using Array.mem_of_getElem? ht
  exact (show Tryz.prog.wantsStandIn 22 = false by kernel_rfl)

/-- The card. -/
theorem scriptPrints_holds : Rows.ScriptPrintsUptoCardSaid :=
  Claim7.holds_tied_plain_at .later [] _ _ _ _ said (fun _ h => by cases h) (by kernel_rfl) (fun _ h => by cases h) scriptPrintsUpto_row_tie rfl ⟨rfl, rfl⟩ (by kernel_rfl) rfl plain (by kernel_rfl)

end Go.Proofs.YtljfbnbmcemdcaaGreatDoor

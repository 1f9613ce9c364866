/- The library's contracts at this seat, as package script needs them. -/
import Derived.Test.YtljfbnbmcemdcaaGreatDoorShelf
import Derived.Test.YtljfbnbmcemdcaaGreatDoorLink
import Derived.Test.YtljfbnbmcemdcaaGreatDoorAgExtS
import Derived.Test.YtljfbnbmcemdcaaGreatDoorAgIdxAny
import Derived.Test.YtljfbnbmcemdcaaGreatDoorAgScript7
import Derived.Test.YtljfbnbmcemdcaaGreatDoorAgPrC
import Derived.Test.YtljfbnbmcemdcaaGreatDoorAgHex
set_option maxRecDepth 100000
set_option linter.unusedVariables false
namespace Go.Proofs.YtljfbnbmcemdcaaGreatDoor
open Go Go.Ag Go.Shelf
open Go.RowKit (Below)

/-- What is known of the world when the call begins. -/
def startOK (w0 : World) (base : Nat) : Prop :=
  (0 < base ∧ ∃ m, w0.cell? ⟨0, 0, none⟩ = some (.int .i64 m)) ∧ Lib.TabBelow Tryz.prog base w0 "internal/strconv.uint64pow10" .u64 Lib.pow10Tab ∧
    (1 < base ∧ ∃ ev, w0.cell? ⟨1, 0, none⟩ = some ev ∧ (ev = .nilIface ∨ ∃ te pe, ev = .iface te pe)) ∧ (2 < base ∧ ∃ ev, w0.cell? ⟨2, 0, none⟩ = some ev ∧ (ev = .nilIface ∨ ∃ te pe, ev = .iface te pe))

theorem L240 : Lays.n240 Tryz.prog Tryz.lays156_ren := { Tryz.lays156 with }

theorem z81 : (Tryz.prog.info? 91).map (fun i => (i.zero, i.size)) = some (some (.agg (Array.replicate 256 (.bool false))), 256) := by kernel_rfl

noncomputable def mach : ScriptMach (lnk startOK) where
  gMax := 0
  gSyn := 1
  gRng := 2
  errT := 117
  splitT := 9
  indexByte := Tryz.strings_IndexByte
  index := fun b off n c zs x w h1 h2 h3 => Tryz.slices_Index_string b off n c zs x w h1 h2 h3
  itoa := fun n w h0 h1 ht => (Tryz.strconv_Itoa n h0 h1 w ht).mono fun e w' ⟨e1, k, os, e2⟩ => ⟨e1, by rw [e2]; exact ⟨rfl, rfl, rfl, by show w.heap.size ≤ (w.heap ++ os).size; rw [Array.size_append]; omega, fun j hj => Lib.heap_grow_old w k os j hj⟩⟩
  atoiOk := fun s v w h1 h2 => (Tryz.strconv_Atoi_ok s h1 v h2 w).mono fun e w' ⟨e1, e2⟩ => ⟨e1, by
    rcases e2 with rfl | ⟨t, rfl⟩
    · exact Below.refl _ _
    · exact ⟨by unfold Lib.bytesWorld World.freeze; split <;> rfl, by unfold Lib.bytesWorld World.freeze; split <;> rfl, by unfold Lib.bytesWorld World.freeze; split <;> rfl, by rw [Lib.bytesWorld_size]; omega, fun k hk => Lib.bytesWorld_at_old w 5 t k hk⟩⟩
  atoiSyn := fun s ev w h1 h5 h6 h3 h4 => by
    cases hA : Lib.atoiAll s.data.toList
    · exact absurd hA (h5 _)
    · exact (Any.strconv_Atoi_syntax Tryz.laysC172 s h1 hA ev w h3 h4).mono fun e w' ⟨N, e1, _, _, e2⟩ => ⟨⟨N, e1⟩, e2⟩
    · exact absurd hA h6
  atoiRng := fun s ev w h1 h2 h3 h4 => (Tryz.strconv_Atoi_range s h1 h2 ev w h3 h4).mono fun e w' ⟨N, e1, _, _, e2⟩ => ⟨⟨N, e1⟩, e2⟩
  cut := fun s sep m w h1 h2 => Tryz.strings_Cut s sep m w h1 h2
  split := fun s sep m w h1 h2 h3 => Tryz.strings_Split s sep m w h1 h2 h3
  joinNone := fun a c sep w => (Tryz.strings_Join_none a c sep w).mono fun e w' ⟨e1, e2⟩ => ⟨e1, e2 ▸ Below.refl _ _⟩
  join := fun bk o c xs sep w h1 h2 h3 h4 h5 => Tryz.strings_Join bk o c xs sep w h1 h2 h3 h4 h5
  any := fun s chars w h1 h2 h3 h4 => Ag.strings_ContainsAny Tryz.lays150 (zero_of_info z81).1 (zero_of_info z81).2 s chars w h1 h2 h3 h4
  ccUsed := fun b w h => Any.Builder_copyCheck_used L240 Tryz.Builder_Extra_156.toX72 b w h
  ccFresh := fun b w h1 h2 h3 => Any.Builder_copyCheck_fresh L240 Tryz.Builder_Extra_156.toX72 b w h1 h2 h3
  st := fun w0 base h => h

noncomputable def fns : ScriptFns (tab startOK) where
  Y := mach.lib
  h8 := h8 _
  h15 := h15 _
  h16 := h16 _
  h29 := h29 _
  h31 := h31 _
  h33 := h33 _
  h51 := h51 _
  h21 := h21 _
  h19 := h19 _
  h10 := h10 _
  h11 := h11 _

theorem libIs : LibIs fns.Y := ⟨rfl, rfl, rfl⟩

theorem prFns : PrFns (tab startOK) where
  h41 := h41 _
  h60 := h60 _
  h59 := h59 _
  h61 := h61 _
  h62 := h62 _
  h83 := h83 _
  h96 := h96 _
  h85 := h85 _
  h104 := h104 _
  h42 := h42 _
  h63 := h63 _
  h84 := h84 _
  h40 := h40 _
  h39 := h39 _
  h58 := h58 _
  h79 := h79 _
  h80 := h80 _
  h81 := h81 _
  h82 := h82 _
  h24 := h24 _
  h26 := h26 _
  h25 := h25 _
  h12 := h12 _
  h6 := h6 _
  h7 := h7 _
  h9 := h9 _
  h13 := h13 _
  h17 := h17 _
  h34 := h34 _
  hex := fun s hs => hex18_spec (h18 _) s hs

end Go.Proofs.YtljfbnbmcemdcaaGreatDoor

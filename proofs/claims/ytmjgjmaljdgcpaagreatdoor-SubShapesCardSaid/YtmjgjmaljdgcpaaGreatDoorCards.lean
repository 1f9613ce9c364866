/-
  DERIVED. GIVEN WITH THE SEED: THE CARDS: each row of YtmjgjmaljdgcpaaGreatDoorRows.lean that lists a variable, with what it lists TIED to the program's text (the seventh form; the later family's looks); each row that meets fmt, with fmt's text TOLD by the authors' own Lean function (tested against real Go, not proved from fmt's source: count such statements apart). THE CARD IS WHAT COUNTS. Prove the row's statement (the work); the ties are given (YtmjgjmaljdgcpaaGreatDoorTie.lean); close each card by the builder's one call (the guide's Derived/Test/ToyasCard.lean, 'card_holds'). Laid BY PROGRAM, IN A SANDBOX (cutbox-door.mjs). By AI agents, Wed Nov 11 2026. No macro, syntax, notation, axiom, sorry.
-/
import Derived.Test.YtmjgjmaljdgcpaaGreatDoorRows
import GoSem.ClaimSeven
namespace Go.Proofs.YtmjgjmaljdgcpaaGreatDoor
namespace Rows

/-- THE TIED CARD OF 'cupellaw09.SubShapes'. -/
def subShapesCard : Claim7 := { stood := { row := subShapesRow, standIns := [], harness := (true, "dfb9fd19ad818bb51808279ccfe96f6ba8cf2902a45a2480bc798171f7783dcd"), looks := true }, kinds := [], alts := [], laidByText := true, laidKinds := [.data, .data, .data, .sentinel, .sentinel], laidTests := true, laidLooks := .later }
def SubShapesCardSaid : Prop := Claim7.holds Tryz.pinned (.plain (OpenSpec.ofChange subShapesSpec)) subShapesCard

/-- THE TIED CARD OF 'cupellaw09.SubMeets'. -/
def subMeetsCard : Claim7 := { stood := { row := subMeetsRow, standIns := [], harness := (true, "dfb9fd19ad818bb51808279ccfe96f6ba8cf2902a45a2480bc798171f7783dcd"), looks := true }, kinds := [], alts := [], laidByText := true, laidKinds := [.data, .data, .data, .sentinel, .sentinel], laidTests := true, laidLooks := .later }
def SubMeetsCardSaid : Prop := Claim7.holds Tryz.pinned (.plain (OpenSpec.ofChange subMeetsSpec)) subMeetsCard

/-- THE TIED CARD OF 'cupellaw09.SubRules'. -/
def subRulesCard : Claim7 := { stood := { row := subRulesRow, standIns := [], harness := (true, "dfb9fd19ad818bb51808279ccfe96f6ba8cf2902a45a2480bc798171f7783dcd"), looks := true }, kinds := [], alts := [], laidByText := true, laidKinds := [.data, .data, .data, .sentinel, .sentinel], laidTests := true, laidLooks := .later }
def SubRulesCardSaid : Prop := Claim7.holds Tryz.pinned (.plain (OpenSpec.ofChange subRulesSpec)) subRulesCard

/-- THE SECOND FORM's CARD OF 'cupellaw09.SubShapes'. -/
def subShapesUptoCard : Claim7 := { stood := { row := subShapesUptoRow, standIns := [], harness := (true, "dfb9fd19ad818bb51808279ccfe96f6ba8cf2902a45a2480bc798171f7783dcd"), looks := true }, kinds := [], alts := [], laidByText := true, laidKinds := [.data, .data, .data, .sentinel, .sentinel], laidTests := true, laidLooks := .later }
def SubShapesUptoCardSaid : Prop := Claim7.holds Tryz.pinned (.plain (OpenSpec.upto subShapesSpec)) subShapesUptoCard

/-- THE SECOND FORM's CARD OF 'cupellaw09.SubMeets'. -/
def subMeetsUptoCard : Claim7 := { stood := { row := subMeetsUptoRow, standIns := [], harness := (true, "dfb9fd19ad818bb51808279ccfe96f6ba8cf2902a45a2480bc798171f7783dcd"), looks := true }, kinds := [], alts := [], laidByText := true, laidKinds := [.data, .data, .data, .sentinel, .sentinel], laidTests := true, laidLooks := .later }
def SubMeetsUptoCardSaid : Prop := Claim7.holds Tryz.pinned (.plain (OpenSpec.upto subMeetsSpec)) subMeetsUptoCard

/-- THE SECOND FORM's CARD OF 'cupellaw09.SubRules'. -/
def subRulesUptoCard : Claim7 := { stood := { row := subRulesUptoRow, standIns := [], harness := (true, "dfb9fd19ad818bb51808279ccfe96f6ba8cf2902a45a2480bc798171f7783dcd"), looks := true }, kinds := [], alts := [], laidByText := true, laidKinds := [.data, .data, .data, .sentinel, .sentinel], laidTests := true, laidLooks := .later }
def SubRulesUptoCardSaid : Prop := Claim7.holds Tryz.pinned (.plain (OpenSpec.upto subRulesSpec)) subRulesUptoCard
end Rows
end Go.Proofs.YtmjgjmaljdgcpaaGreatDoor

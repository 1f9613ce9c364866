/-
  DERIVED. GIVEN WITH THE SEED: THE CARDS: each row of YtlimibffbaihfaaGreatDoorRows.lean that lists a variable, with what it lists TIED to the program's text (the seventh form; the later family's looks); each row that meets fmt, with fmt's text TOLD by the authors' own Lean function (tested against real Go, not proved from fmt's source: count such statements apart). THE CARD IS WHAT COUNTS. Prove the row's statement (the work); the ties are given (YtlimibffbaihfaaGreatDoorTie.lean); close each card by the builder's one call (the guide's Derived/Test/ToyasCard.lean, 'card_holds'). Laid BY PROGRAM, IN A SANDBOX (cutbox-door.mjs). By AI agents, Wed Nov 11 2026. No macro, syntax, notation, axiom, sorry.
-/
import Derived.Test.YtlimibffbaihfaaGreatDoorRows
import GoSem.ClaimSeven
namespace Go.Proofs.YtlimibffbaihfaaGreatDoor
namespace Rows

/-- THE TIED CARD OF 'cupellaw10.PartsUnion'. -/
def partsUnionCard : Claim7 := { stood := { row := partsUnionRow, standIns := [], harness := (true, "ad071c511973966ce81711cebba9c42f110a16f1b04a51828fc1026649c10cab"), looks := true }, kinds := [], alts := [], laidByText := true, laidKinds := [.data, .data, .data, .sentinel, .sentinel], laidTests := true, laidLooks := .later }
def PartsUnionCardSaid : Prop := Claim7.holds Tryz.pinned (.plain (OpenSpec.ofChange partsUnionSpec)) partsUnionCard

/-- THE TIED CARD OF 'cupellaw10.PartsNames'. -/
def partsNamesCard : Claim7 := { stood := { row := partsNamesRow, standIns := [], harness := (true, "ad071c511973966ce81711cebba9c42f110a16f1b04a51828fc1026649c10cab"), looks := true }, kinds := [], alts := [], laidByText := true, laidKinds := [.data, .data, .data, .sentinel, .sentinel], laidTests := true, laidLooks := .later }
def PartsNamesCardSaid : Prop := Claim7.holds Tryz.pinned (.plain (OpenSpec.ofChange partsNamesSpec)) partsNamesCard

/-- THE TIED CARD OF 'cupellaw10.PartsShapes'. -/
def partsShapesCard : Claim7 := { stood := { row := partsShapesRow, standIns := [], harness := (true, "ad071c511973966ce81711cebba9c42f110a16f1b04a51828fc1026649c10cab"), looks := true }, kinds := [], alts := [], laidByText := true, laidKinds := [.data, .data, .data, .sentinel, .sentinel], laidTests := true, laidLooks := .later }
def PartsShapesCardSaid : Prop := Claim7.holds Tryz.pinned (.plain (OpenSpec.ofChange partsShapesSpec)) partsShapesCard

/-- THE SECOND FORM's CARD OF 'cupellaw10.PartsUnion'. -/
def partsUnionUptoCard : Claim7 := { stood := { row := partsUnionUptoRow, standIns := [], harness := (true, "ad071c511973966ce81711cebba9c42f110a16f1b04a51828fc1026649c10cab"), looks := true }, kinds := [], alts := [], laidByText := true, laidKinds := [.data, .data, .data, .sentinel, .sentinel], laidTests := true, laidLooks := .later }
def PartsUnionUptoCardSaid : Prop := Claim7.holds Tryz.pinned (.plain (OpenSpec.upto partsUnionSpec)) partsUnionUptoCard

/-- THE SECOND FORM's CARD OF 'cupellaw10.PartsNames'. -/
def partsNamesUptoCard : Claim7 := { stood := { row := partsNamesUptoRow, standIns := [], harness := (true, "ad071c511973966ce81711cebba9c42f110a16f1b04a51828fc1026649c10cab"), looks := true }, kinds := [], alts := [], laidByText := true, laidKinds := [.data, .data, .data, .sentinel, .sentinel], laidTests := true, laidLooks := .later }
def PartsNamesUptoCardSaid : Prop := Claim7.holds Tryz.pinned (.plain (OpenSpec.upto partsNamesSpec)) partsNamesUptoCard

/-- THE SECOND FORM's CARD OF 'cupellaw10.PartsShapes'. -/
def partsShapesUptoCard : Claim7 := { stood := { row := partsShapesUptoRow, standIns := [], harness := (true, "ad071c511973966ce81711cebba9c42f110a16f1b04a51828fc1026649c10cab"), looks := true }, kinds := [], alts := [], laidByText := true, laidKinds := [.data, .data, .data, .sentinel, .sentinel], laidTests := true, laidLooks := .later }
def PartsShapesUptoCardSaid : Prop := Claim7.holds Tryz.pinned (.plain (OpenSpec.upto partsShapesSpec)) partsShapesUptoCard
end Rows
end Go.Proofs.YtlimibffbaihfaaGreatDoor

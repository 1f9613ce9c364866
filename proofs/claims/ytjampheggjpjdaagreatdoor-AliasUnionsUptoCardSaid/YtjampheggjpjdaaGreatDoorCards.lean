/-
  DERIVED. GIVEN WITH THE SEED: THE CARDS: each row of YtjampheggjpjdaaGreatDoorRows.lean that lists a variable, with what it lists TIED to the program's text (the seventh form; the later family's looks); each row that meets fmt, with fmt's text TOLD by the authors' own Lean function (tested against real Go, not proved from fmt's source: count such statements apart). THE CARD IS WHAT COUNTS. Prove the row's statement (the work); the ties are given (YtjampheggjpjdaaGreatDoorTie.lean); close each card by the builder's one call (the guide's Derived/Test/ToyasCard.lean, 'card_holds'). Laid BY PROGRAM, IN A SANDBOX (cutbox-door.mjs). By AI agents, Wed Nov 11 2026. No macro, syntax, notation, axiom, sorry.
-/
import Derived.Test.YtjampheggjpjdaaGreatDoorRows
import GoSem.ClaimSeven
namespace Go.Proofs.YtjampheggjpjdaaGreatDoor
namespace Rows

/-- THE TIED CARD OF 'cupellaw08.AliasOrder'. -/
def aliasOrderCard : Claim7 := { stood := { row := aliasOrderRow, standIns := [], harness := (true, "1a1de3784fc0a5b45d586bf43fee4b97d9a268fefbb3f68ca6c7570b9fabec16"), looks := true }, kinds := [], alts := [], laidByText := true, laidKinds := [.data, .data, .data, .sentinel, .sentinel], laidTests := true, laidLooks := .later }
def AliasOrderCardSaid : Prop := Claim7.holds Tryz.pinned (.plain (OpenSpec.ofChange aliasOrderSpec)) aliasOrderCard

/-- THE TIED CARD OF 'cupellaw08.AliasUnions'. -/
def aliasUnionsCard : Claim7 := { stood := { row := aliasUnionsRow, standIns := [], harness := (true, "1a1de3784fc0a5b45d586bf43fee4b97d9a268fefbb3f68ca6c7570b9fabec16"), looks := true }, kinds := [], alts := [], laidByText := true, laidKinds := [.data, .data, .data, .sentinel, .sentinel], laidTests := true, laidLooks := .later }
def AliasUnionsCardSaid : Prop := Claim7.holds Tryz.pinned (.plain (OpenSpec.ofChange aliasUnionsSpec)) aliasUnionsCard

/-- THE SECOND FORM's CARD OF 'cupellaw08.AliasOrder'. -/
def aliasOrderUptoCard : Claim7 := { stood := { row := aliasOrderUptoRow, standIns := [], harness := (true, "1a1de3784fc0a5b45d586bf43fee4b97d9a268fefbb3f68ca6c7570b9fabec16"), looks := true }, kinds := [], alts := [], laidByText := true, laidKinds := [.data, .data, .data, .sentinel, .sentinel], laidTests := true, laidLooks := .later }
def AliasOrderUptoCardSaid : Prop := Claim7.holds Tryz.pinned (.plain (OpenSpec.upto aliasOrderSpec)) aliasOrderUptoCard

/-- THE SECOND FORM's CARD OF 'cupellaw08.AliasUnions'. -/
def aliasUnionsUptoCard : Claim7 := { stood := { row := aliasUnionsUptoRow, standIns := [], harness := (true, "1a1de3784fc0a5b45d586bf43fee4b97d9a268fefbb3f68ca6c7570b9fabec16"), looks := true }, kinds := [], alts := [], laidByText := true, laidKinds := [.data, .data, .data, .sentinel, .sentinel], laidTests := true, laidLooks := .later }
def AliasUnionsUptoCardSaid : Prop := Claim7.holds Tryz.pinned (.plain (OpenSpec.upto aliasUnionsSpec)) aliasUnionsUptoCard
end Rows
end Go.Proofs.YtjampheggjpjdaaGreatDoor

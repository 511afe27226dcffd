/-
  DERIVED. GIVEN WITH THE SEED: THE CARDS: each row of YtpjjkbdkgaehkaaGreatDoorRows.lean that lists a variable, with what it lists TIED to the program's text (the seventh form; the later family's looks); each row that meets fmt, with fmt's text TOLD by the authors' own Lean function (tested against real Go, not proved from fmt's source: count such statements apart). THE CARD IS WHAT COUNTS. Prove the row's statement (the work); the ties are given (YtpjjkbdkgaehkaaGreatDoorTie.lean); close each card by the builder's one call (the guide's Derived/Test/ToyasCard.lean, 'card_holds'). Laid BY PROGRAM, IN A SANDBOX (cutbox-door.mjs). By AI agents, Wed Nov 11 2026. No macro, syntax, notation, axiom, sorry.
-/
import Derived.Test.YtpjjkbdkgaehkaaGreatDoorRows
import GoSem.ClaimSeven
namespace Go.Proofs.YtpjjkbdkgaehkaaGreatDoor
namespace Rows

/-- THE TIED CARD OF 'admissionlaw19.InventoryEncodes'. -/
def inventoryEncodesCard : Claim7 := { stood := { row := inventoryEncodesRow, standIns := [], harness := (true, "f47fe2f40a5bb41cba27aa0d9fa083a27731b0f5704b0fd775ec9d6e9d3e39e0"), looks := false }, kinds := [], alts := [], laidByText := true, laidKinds := [.data, .data, .data, .data, .pinned], laidTests := true, laidLooks := .later }
def InventoryEncodesCardSaid : Prop := Claim7.holds Tryz.pinned (.plain (OpenSpec.ofChange inventoryEncodesSpec)) inventoryEncodesCard

/-- THE TIED CARD OF 'admissionlaw19.InventoryWithin'. -/
def inventoryWithinCard : Claim7 := { stood := { row := inventoryWithinRow, standIns := [], harness := (true, "f47fe2f40a5bb41cba27aa0d9fa083a27731b0f5704b0fd775ec9d6e9d3e39e0"), looks := false }, kinds := [], alts := [], laidByText := true, laidKinds := [.data, .pinned], laidTests := true, laidLooks := .later }
def InventoryWithinCardSaid : Prop := Claim7.holds Tryz.pinned (.plain (OpenSpec.ofChange inventoryWithinSpec)) inventoryWithinCard

/-- THE TIED CARD OF 'admissionlaw19.InventoryDecodes'. -/
def inventoryDecodesCard : Claim7 := { stood := { row := inventoryDecodesRow, standIns := [], harness := (true, "f47fe2f40a5bb41cba27aa0d9fa083a27731b0f5704b0fd775ec9d6e9d3e39e0"), looks := false }, kinds := [], alts := [], laidByText := true, laidKinds := [.data, .data, .data, .data, .pinned], laidTests := true, laidLooks := .later }
def InventoryDecodesCardSaid : Prop := Claim7.holds Tryz.pinned (.plain (OpenSpec.ofChange inventoryDecodesSpec)) inventoryDecodesCard

/-- THE SECOND FORM's CARD OF 'admissionlaw19.InventoryEncodes'. -/
def inventoryEncodesUptoCard : Claim7 := { stood := { row := inventoryEncodesUptoRow, standIns := [], harness := (true, "f47fe2f40a5bb41cba27aa0d9fa083a27731b0f5704b0fd775ec9d6e9d3e39e0"), looks := false }, kinds := [], alts := [], laidByText := true, laidKinds := [.data, .data, .data, .data, .pinned], laidTests := true, laidLooks := .later }
def InventoryEncodesUptoCardSaid : Prop := Claim7.holds Tryz.pinned (.plain (OpenSpec.upto inventoryEncodesSpec)) inventoryEncodesUptoCard

/-- THE SECOND FORM's CARD OF 'admissionlaw19.InventoryWithin'. -/
def inventoryWithinUptoCard : Claim7 := { stood := { row := inventoryWithinUptoRow, standIns := [], harness := (true, "f47fe2f40a5bb41cba27aa0d9fa083a27731b0f5704b0fd775ec9d6e9d3e39e0"), looks := false }, kinds := [], alts := [], laidByText := true, laidKinds := [.data, .pinned], laidTests := true, laidLooks := .later }
def InventoryWithinUptoCardSaid : Prop := Claim7.holds Tryz.pinned (.plain (OpenSpec.upto inventoryWithinSpec)) inventoryWithinUptoCard

/-- THE SECOND FORM's CARD OF 'admissionlaw19.InventoryDecodes'. -/
def inventoryDecodesUptoCard : Claim7 := { stood := { row := inventoryDecodesUptoRow, standIns := [], harness := (true, "f47fe2f40a5bb41cba27aa0d9fa083a27731b0f5704b0fd775ec9d6e9d3e39e0"), looks := false }, kinds := [], alts := [], laidByText := true, laidKinds := [.data, .data, .data, .data, .pinned], laidTests := true, laidLooks := .later }
def InventoryDecodesUptoCardSaid : Prop := Claim7.holds Tryz.pinned (.plain (OpenSpec.upto inventoryDecodesSpec)) inventoryDecodesUptoCard
end Rows
end Go.Proofs.YtpjjkbdkgaehkaaGreatDoor

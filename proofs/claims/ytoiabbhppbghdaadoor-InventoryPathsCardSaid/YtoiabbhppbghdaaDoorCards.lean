/-
  DERIVED. GIVEN WITH THE SEED: THE CARDS: each row of YtoiabbhppbghdaaDoorRows.lean that lists a variable, with what it lists TIED to the program's text (the seventh form; the later family's looks); each row that meets fmt, with fmt's text TOLD by the authors' own Lean function (tested against real Go, not proved from fmt's source: count such statements apart). THE CARD IS WHAT COUNTS. Prove the row's statement (the work); the ties are given (YtoiabbhppbghdaaDoorTie.lean); close each card by the builder's one call (the guide's Derived/Test/ToyasCard.lean, 'card_holds'). Laid BY PROGRAM, IN A SANDBOX (cutbox-door.mjs). By AI agents, Wed Nov 11 2026. No macro, syntax, notation, axiom, sorry.
-/
import Derived.Test.YtoiabbhppbghdaaDoorRows
import GoSem.ClaimSeven
namespace Go.Proofs.YtoiabbhppbghdaaDoor
namespace Rows

/-- THE TIED CARD OF 'admissionlaw19.InventoryPaths'. -/
def inventoryPathsCard : Claim7 := { stood := { row := inventoryPathsRow, standIns := [], harness := (true, "d3b736f759fc160c6b5704d52b097ffd18fe8545320e61eca3000aa537d7953f"), looks := false }, kinds := [], alts := [], laidByText := true, laidKinds := [.data, .pinned], laidTests := true, laidLooks := .later }
def InventoryPathsCardSaid : Prop := Claim7.holds Tryd.pinned (.plain (OpenSpec.ofChange inventoryPathsSpec)) inventoryPathsCard

/-- THE TIED CARD OF 'admissionlaw19.InventoryPurls'. -/
def inventoryPurlsCard : Claim7 := { stood := { row := inventoryPurlsRow, standIns := [], harness := (true, "d3b736f759fc160c6b5704d52b097ffd18fe8545320e61eca3000aa537d7953f"), looks := false }, kinds := [], alts := [], laidByText := true, laidKinds := [.data, .pinned], laidTests := true, laidLooks := .later }
def InventoryPurlsCardSaid : Prop := Claim7.holds Tryd.pinned (.plain (OpenSpec.ofChange inventoryPurlsSpec)) inventoryPurlsCard

/-- THE TIED CARD OF 'admissionlaw19.InventoryMerges'. -/
def inventoryMergesCard : Claim7 := { stood := { row := inventoryMergesRow, standIns := [], harness := (true, "d3b736f759fc160c6b5704d52b097ffd18fe8545320e61eca3000aa537d7953f"), looks := false }, kinds := [], alts := [], laidByText := true, laidKinds := [.data, .pinned], laidTests := true, laidLooks := .later }
def InventoryMergesCardSaid : Prop := Claim7.holds Tryd.pinned (.plain (OpenSpec.ofChange inventoryMergesSpec)) inventoryMergesCard

/-- THE SECOND FORM's CARD OF 'admissionlaw19.InventoryPaths'. -/
def inventoryPathsUptoCard : Claim7 := { stood := { row := inventoryPathsUptoRow, standIns := [], harness := (true, "d3b736f759fc160c6b5704d52b097ffd18fe8545320e61eca3000aa537d7953f"), looks := false }, kinds := [], alts := [], laidByText := true, laidKinds := [.data, .pinned], laidTests := true, laidLooks := .later }
def InventoryPathsUptoCardSaid : Prop := Claim7.holds Tryd.pinned (.plain (OpenSpec.upto inventoryPathsSpec)) inventoryPathsUptoCard

/-- THE SECOND FORM's CARD OF 'admissionlaw19.InventoryPurls'. -/
def inventoryPurlsUptoCard : Claim7 := { stood := { row := inventoryPurlsUptoRow, standIns := [], harness := (true, "d3b736f759fc160c6b5704d52b097ffd18fe8545320e61eca3000aa537d7953f"), looks := false }, kinds := [], alts := [], laidByText := true, laidKinds := [.data, .pinned], laidTests := true, laidLooks := .later }
def InventoryPurlsUptoCardSaid : Prop := Claim7.holds Tryd.pinned (.plain (OpenSpec.upto inventoryPurlsSpec)) inventoryPurlsUptoCard

/-- THE SECOND FORM's CARD OF 'admissionlaw19.InventoryMerges'. -/
def inventoryMergesUptoCard : Claim7 := { stood := { row := inventoryMergesUptoRow, standIns := [], harness := (true, "d3b736f759fc160c6b5704d52b097ffd18fe8545320e61eca3000aa537d7953f"), looks := false }, kinds := [], alts := [], laidByText := true, laidKinds := [.data, .pinned], laidTests := true, laidLooks := .later }
def InventoryMergesUptoCardSaid : Prop := Claim7.holds Tryd.pinned (.plain (OpenSpec.upto inventoryMergesSpec)) inventoryMergesUptoCard
end Rows
end Go.Proofs.YtoiabbhppbghdaaDoor

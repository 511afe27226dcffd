/-
  DERIVED. GIVEN WITH THE SEED: THE CARDS: each row of YtnhfaincdabdkaaGreatDoorRows.lean that lists a variable, with what it lists TIED to the program's text (the seventh form; the later family's looks); each row that meets fmt, with fmt's text TOLD by the authors' own Lean function (tested against real Go, not proved from fmt's source: count such statements apart). THE CARD IS WHAT COUNTS. Prove the row's statement (the work); the ties are given (YtnhfaincdabdkaaGreatDoorTie.lean); close each card by the builder's one call (the guide's Derived/Test/ToyasCard.lean, 'card_holds'). Laid BY PROGRAM, IN A SANDBOX (cutbox-door.mjs). By AI agents, Wed Nov 11 2026. No macro, syntax, notation, axiom, sorry.
-/
import Derived.Test.YtnhfaincdabdkaaGreatDoorRows
import GoSem.ClaimSeven
namespace Go.Proofs.YtnhfaincdabdkaaGreatDoor
namespace Rows

/-- THE TIED CARD OF 'admissionlaw19.InventoryDecodes'. -/
def inventoryDecodesCard : Claim7 := { stood := { row := inventoryDecodesRow, standIns := [], harness := (true, "fcf2a2bd252c3f8d0e5467e27b268d98aaa9a9363212990cb48e69f03005d8f8"), looks := false }, kinds := [], alts := [], laidByText := true, laidKinds := [.data, .data, .data, .data, .pinned], laidTests := true, laidLooks := .later }
def InventoryDecodesCardSaid : Prop := Claim7.holds Tryz.pinned (.plain (OpenSpec.ofChange inventoryDecodesSpec)) inventoryDecodesCard

/-- THE TIED CARD OF 'admissionlaw23.AdvisoryChanged'. -/
def advisoryChangedCard : Claim7 := { stood := { row := advisoryChangedRow, standIns := [], harness := (true, "fcf2a2bd252c3f8d0e5467e27b268d98aaa9a9363212990cb48e69f03005d8f8"), looks := false }, kinds := [], alts := [], laidByText := true, laidKinds := [.data, .data, .data, .data, .pinned], laidTests := true, laidLooks := .later }
def AdvisoryChangedCardSaid : Prop := Claim7.holds Tryz.pinned (.plain (OpenSpec.ofChange advisoryChangedSpec)) advisoryChangedCard

/-- THE TIED CARD OF 'admissionlaw23.AdvisoryRound'. -/
def advisoryRoundCard : Claim7 := { stood := { row := advisoryRoundRow, standIns := [], harness := (true, "fcf2a2bd252c3f8d0e5467e27b268d98aaa9a9363212990cb48e69f03005d8f8"), looks := false }, kinds := [], alts := [], laidByText := true, laidKinds := [.data, .data, .data, .data, .pinned], laidTests := true, laidLooks := .later }
def AdvisoryRoundCardSaid : Prop := Claim7.holds Tryz.pinned (.plain (OpenSpec.ofChange advisoryRoundSpec)) advisoryRoundCard

/-- THE TIED CARD OF 'admissionlaw23.AdvisoryDecode'. -/
def advisoryDecodeCard : Claim7 := { stood := { row := advisoryDecodeRow, standIns := [], harness := (true, "fcf2a2bd252c3f8d0e5467e27b268d98aaa9a9363212990cb48e69f03005d8f8"), looks := false }, kinds := [], alts := [], laidByText := true, laidKinds := [.data, .data, .data, .data, .pinned], laidTests := true, laidLooks := .later }
def AdvisoryDecodeCardSaid : Prop := Claim7.holds Tryz.pinned (.plain (OpenSpec.ofChange advisoryDecodeSpec)) advisoryDecodeCard

/-- THE TIED CARD OF 'admissionlaw23.AdvisorySpoilt'. -/
def advisorySpoiltCard : Claim7 := { stood := { row := advisorySpoiltRow, standIns := [], harness := (true, "fcf2a2bd252c3f8d0e5467e27b268d98aaa9a9363212990cb48e69f03005d8f8"), looks := false }, kinds := [], alts := [], laidByText := true, laidKinds := [.data, .data, .data, .data, .pinned], laidTests := true, laidLooks := .later }
def AdvisorySpoiltCardSaid : Prop := Claim7.holds Tryz.pinned (.plain (OpenSpec.ofChange advisorySpoiltSpec)) advisorySpoiltCard

/-- THE TIED CARD OF 'admissionlaw23.AdvisoryLines'. -/
def advisoryLinesCard : Claim7 := { stood := { row := advisoryLinesRow, standIns := [], harness := (true, "fcf2a2bd252c3f8d0e5467e27b268d98aaa9a9363212990cb48e69f03005d8f8"), looks := false }, kinds := [], alts := [], laidByText := true, laidKinds := [.data, .data, .data, .data, .pinned], laidTests := true, laidLooks := .later }
def AdvisoryLinesCardSaid : Prop := Claim7.holds Tryz.pinned (.plain (OpenSpec.ofChange advisoryLinesSpec)) advisoryLinesCard

/-- THE TIED CARD OF 'admissionlaw23.AdvisoryCovers'. -/
def advisoryCoversCard : Claim7 := { stood := { row := advisoryCoversRow, standIns := [], harness := (true, "fcf2a2bd252c3f8d0e5467e27b268d98aaa9a9363212990cb48e69f03005d8f8"), looks := false }, kinds := [], alts := [], laidByText := true, laidKinds := [.data, .data, .data, .data, .pinned], laidTests := true, laidLooks := .later }
def AdvisoryCoversCardSaid : Prop := Claim7.holds Tryz.pinned (.plain (OpenSpec.ofChange advisoryCoversSpec)) advisoryCoversCard

/-- THE TIED CARD OF 'admissionlaw23.AdvisoryUnique'. -/
def advisoryUniqueCard : Claim7 := { stood := { row := advisoryUniqueRow, standIns := [], harness := (true, "fcf2a2bd252c3f8d0e5467e27b268d98aaa9a9363212990cb48e69f03005d8f8"), looks := false }, kinds := [], alts := [], laidByText := true, laidKinds := [.data, .data, .data, .data, .pinned], laidTests := true, laidLooks := .later }
def AdvisoryUniqueCardSaid : Prop := Claim7.holds Tryz.pinned (.plain (OpenSpec.ofChange advisoryUniqueSpec)) advisoryUniqueCard

/-- THE TIED CARD OF 'admissionlaw23.AdvisoryValid'. -/
def advisoryValidCard : Claim7 := { stood := { row := advisoryValidRow, standIns := [], harness := (true, "fcf2a2bd252c3f8d0e5467e27b268d98aaa9a9363212990cb48e69f03005d8f8"), looks := false }, kinds := [], alts := [], laidByText := true, laidKinds := [.data, .data, .data, .data, .pinned], laidTests := true, laidLooks := .later }
def AdvisoryValidCardSaid : Prop := Claim7.holds Tryz.pinned (.plain (OpenSpec.ofChange advisoryValidSpec)) advisoryValidCard

/-- THE TIED CARD OF 'admissionlaw23.AdvisoryForm'. -/
def advisoryFormCard : Claim7 := { stood := { row := advisoryFormRow, standIns := [], harness := (true, "fcf2a2bd252c3f8d0e5467e27b268d98aaa9a9363212990cb48e69f03005d8f8"), looks := false }, kinds := [], alts := [], laidByText := true, laidKinds := [.data, .data, .data, .data, .pinned], laidTests := true, laidLooks := .later }
def AdvisoryFormCardSaid : Prop := Claim7.holds Tryz.pinned (.plain (OpenSpec.ofChange advisoryFormSpec)) advisoryFormCard

/-- THE TIED CARD OF 'admissionlaw23.AdvisoryNone'. -/
def advisoryNoneCard : Claim7 := { stood := { row := advisoryNoneRow, standIns := [], harness := (true, "fcf2a2bd252c3f8d0e5467e27b268d98aaa9a9363212990cb48e69f03005d8f8"), looks := false }, kinds := [], alts := [], laidByText := true, laidKinds := [.data, .data, .data, .data, .pinned], laidTests := true, laidLooks := .later }
def AdvisoryNoneCardSaid : Prop := Claim7.holds Tryz.pinned (.plain (OpenSpec.ofChange advisoryNoneSpec)) advisoryNoneCard

/-- THE SECOND FORM's CARD OF 'admissionlaw19.InventoryDecodes'. -/
def inventoryDecodesUptoCard : Claim7 := { stood := { row := inventoryDecodesUptoRow, standIns := [], harness := (true, "fcf2a2bd252c3f8d0e5467e27b268d98aaa9a9363212990cb48e69f03005d8f8"), looks := false }, kinds := [], alts := [], laidByText := true, laidKinds := [.data, .data, .data, .data, .pinned], laidTests := true, laidLooks := .later }
def InventoryDecodesUptoCardSaid : Prop := Claim7.holds Tryz.pinned (.plain (OpenSpec.upto inventoryDecodesSpec)) inventoryDecodesUptoCard

/-- THE SECOND FORM's CARD OF 'admissionlaw23.AdvisoryChanged'. -/
def advisoryChangedUptoCard : Claim7 := { stood := { row := advisoryChangedUptoRow, standIns := [], harness := (true, "fcf2a2bd252c3f8d0e5467e27b268d98aaa9a9363212990cb48e69f03005d8f8"), looks := false }, kinds := [], alts := [], laidByText := true, laidKinds := [.data, .data, .data, .data, .pinned], laidTests := true, laidLooks := .later }
def AdvisoryChangedUptoCardSaid : Prop := Claim7.holds Tryz.pinned (.plain (OpenSpec.upto advisoryChangedSpec)) advisoryChangedUptoCard

/-- THE SECOND FORM's CARD OF 'admissionlaw23.AdvisoryRound'. -/
def advisoryRoundUptoCard : Claim7 := { stood := { row := advisoryRoundUptoRow, standIns := [], harness := (true, "fcf2a2bd252c3f8d0e5467e27b268d98aaa9a9363212990cb48e69f03005d8f8"), looks := false }, kinds := [], alts := [], laidByText := true, laidKinds := [.data, .data, .data, .data, .pinned], laidTests := true, laidLooks := .later }
def AdvisoryRoundUptoCardSaid : Prop := Claim7.holds Tryz.pinned (.plain (OpenSpec.upto advisoryRoundSpec)) advisoryRoundUptoCard

/-- THE SECOND FORM's CARD OF 'admissionlaw23.AdvisoryDecode'. -/
def advisoryDecodeUptoCard : Claim7 := { stood := { row := advisoryDecodeUptoRow, standIns := [], harness := (true, "fcf2a2bd252c3f8d0e5467e27b268d98aaa9a9363212990cb48e69f03005d8f8"), looks := false }, kinds := [], alts := [], laidByText := true, laidKinds := [.data, .data, .data, .data, .pinned], laidTests := true, laidLooks := .later }
def AdvisoryDecodeUptoCardSaid : Prop := Claim7.holds Tryz.pinned (.plain (OpenSpec.upto advisoryDecodeSpec)) advisoryDecodeUptoCard

/-- THE SECOND FORM's CARD OF 'admissionlaw23.AdvisorySpoilt'. -/
def advisorySpoiltUptoCard : Claim7 := { stood := { row := advisorySpoiltUptoRow, standIns := [], harness := (true, "fcf2a2bd252c3f8d0e5467e27b268d98aaa9a9363212990cb48e69f03005d8f8"), looks := false }, kinds := [], alts := [], laidByText := true, laidKinds := [.data, .data, .data, .data, .pinned], laidTests := true, laidLooks := .later }
def AdvisorySpoiltUptoCardSaid : Prop := Claim7.holds Tryz.pinned (.plain (OpenSpec.upto advisorySpoiltSpec)) advisorySpoiltUptoCard

/-- THE SECOND FORM's CARD OF 'admissionlaw23.AdvisoryLines'. -/
def advisoryLinesUptoCard : Claim7 := { stood := { row := advisoryLinesUptoRow, standIns := [], harness := (true, "fcf2a2bd252c3f8d0e5467e27b268d98aaa9a9363212990cb48e69f03005d8f8"), looks := false }, kinds := [], alts := [], laidByText := true, laidKinds := [.data, .data, .data, .data, .pinned], laidTests := true, laidLooks := .later }
def AdvisoryLinesUptoCardSaid : Prop := Claim7.holds Tryz.pinned (.plain (OpenSpec.upto advisoryLinesSpec)) advisoryLinesUptoCard

/-- THE SECOND FORM's CARD OF 'admissionlaw23.AdvisoryCovers'. -/
def advisoryCoversUptoCard : Claim7 := { stood := { row := advisoryCoversUptoRow, standIns := [], harness := (true, "fcf2a2bd252c3f8d0e5467e27b268d98aaa9a9363212990cb48e69f03005d8f8"), looks := false }, kinds := [], alts := [], laidByText := true, laidKinds := [.data, .data, .data, .data, .pinned], laidTests := true, laidLooks := .later }
def AdvisoryCoversUptoCardSaid : Prop := Claim7.holds Tryz.pinned (.plain (OpenSpec.upto advisoryCoversSpec)) advisoryCoversUptoCard

/-- THE SECOND FORM's CARD OF 'admissionlaw23.AdvisoryUnique'. -/
def advisoryUniqueUptoCard : Claim7 := { stood := { row := advisoryUniqueUptoRow, standIns := [], harness := (true, "fcf2a2bd252c3f8d0e5467e27b268d98aaa9a9363212990cb48e69f03005d8f8"), looks := false }, kinds := [], alts := [], laidByText := true, laidKinds := [.data, .data, .data, .data, .pinned], laidTests := true, laidLooks := .later }
def AdvisoryUniqueUptoCardSaid : Prop := Claim7.holds Tryz.pinned (.plain (OpenSpec.upto advisoryUniqueSpec)) advisoryUniqueUptoCard

/-- THE SECOND FORM's CARD OF 'admissionlaw23.AdvisoryValid'. -/
def advisoryValidUptoCard : Claim7 := { stood := { row := advisoryValidUptoRow, standIns := [], harness := (true, "fcf2a2bd252c3f8d0e5467e27b268d98aaa9a9363212990cb48e69f03005d8f8"), looks := false }, kinds := [], alts := [], laidByText := true, laidKinds := [.data, .data, .data, .data, .pinned], laidTests := true, laidLooks := .later }
def AdvisoryValidUptoCardSaid : Prop := Claim7.holds Tryz.pinned (.plain (OpenSpec.upto advisoryValidSpec)) advisoryValidUptoCard

/-- THE SECOND FORM's CARD OF 'admissionlaw23.AdvisoryForm'. -/
def advisoryFormUptoCard : Claim7 := { stood := { row := advisoryFormUptoRow, standIns := [], harness := (true, "fcf2a2bd252c3f8d0e5467e27b268d98aaa9a9363212990cb48e69f03005d8f8"), looks := false }, kinds := [], alts := [], laidByText := true, laidKinds := [.data, .data, .data, .data, .pinned], laidTests := true, laidLooks := .later }
def AdvisoryFormUptoCardSaid : Prop := Claim7.holds Tryz.pinned (.plain (OpenSpec.upto advisoryFormSpec)) advisoryFormUptoCard

/-- THE SECOND FORM's CARD OF 'admissionlaw23.AdvisoryNone'. -/
def advisoryNoneUptoCard : Claim7 := { stood := { row := advisoryNoneUptoRow, standIns := [], harness := (true, "fcf2a2bd252c3f8d0e5467e27b268d98aaa9a9363212990cb48e69f03005d8f8"), looks := false }, kinds := [], alts := [], laidByText := true, laidKinds := [.data, .data, .data, .data, .pinned], laidTests := true, laidLooks := .later }
def AdvisoryNoneUptoCardSaid : Prop := Claim7.holds Tryz.pinned (.plain (OpenSpec.upto advisoryNoneSpec)) advisoryNoneUptoCard
end Rows
end Go.Proofs.YtnhfaincdabdkaaGreatDoor

/-
  DERIVED. GIVEN WITH THE SEED: THE CARDS: each row of YtbikeahmldobkaaGreatDoorRows.lean that lists a variable, with what it lists TIED to the program's text (the seventh form; the later family's looks); each row that meets fmt, with fmt's text TOLD by the authors' own Lean function (tested against real Go, not proved from fmt's source: count such statements apart). THE CARD IS WHAT COUNTS. Prove the row's statement (the work); the ties are given (YtbikeahmldobkaaGreatDoorTie.lean); close each card by the builder's one call (the guide's Derived/Test/ToyasCard.lean, 'card_holds'). Laid BY PROGRAM, IN A SANDBOX (cutbox-door.mjs). By AI agents, Wed Nov 11 2026. No macro, syntax, notation, axiom, sorry.
-/
import Derived.Test.YtbikeahmldobkaaGreatDoorRows
import GoSem.ClaimSeven
namespace Go.Proofs.YtbikeahmldobkaaGreatDoor
namespace Rows

/-- THE TIED CARD OF 'admissionlaw25.AffectedHits'. -/
def affectedHitsCard : Claim7 := { stood := { row := affectedHitsRow, standIns := [], harness := (true, "c4136a5f91365033f7c2be298c10f4ea51687846647bc1da44c0cc457a4a0a87"), looks := false }, kinds := [], alts := [], laidByText := true, laidKinds := [.data, .pinned], laidTests := true, laidLooks := .later }
def AffectedHitsCardSaid : Prop := Claim7.holds Tryz.pinned (.plain (OpenSpec.ofChange affectedHitsSpec)) affectedHitsCard

/-- THE TIED CARD OF 'admissionlaw25.AffectedRaw'. -/
def affectedRawCard : Claim7 := { stood := { row := affectedRawRow, standIns := [], harness := (true, "c4136a5f91365033f7c2be298c10f4ea51687846647bc1da44c0cc457a4a0a87"), looks := false }, kinds := [], alts := [], laidByText := true, laidKinds := [.data, .pinned], laidTests := true, laidLooks := .later }
def AffectedRawCardSaid : Prop := Claim7.holds Tryz.pinned (.plain (OpenSpec.ofChange affectedRawSpec)) affectedRawCard

/-- THE TIED CARD OF 'admissionlaw25.AffectedUpgrade'. -/
def affectedUpgradeCard : Claim7 := { stood := { row := affectedUpgradeRow, standIns := [], harness := (true, "c4136a5f91365033f7c2be298c10f4ea51687846647bc1da44c0cc457a4a0a87"), looks := false }, kinds := [], alts := [], laidByText := true, laidKinds := [.data, .pinned], laidTests := true, laidLooks := .later }
def AffectedUpgradeCardSaid : Prop := Claim7.holds Tryz.pinned (.plain (OpenSpec.ofChange affectedUpgradeSpec)) affectedUpgradeCard

/-- THE TIED CARD OF 'admissionlaw25.AffectedRight'. -/
def affectedRightCard : Claim7 := { stood := { row := affectedRightRow, standIns := [], harness := (true, "c4136a5f91365033f7c2be298c10f4ea51687846647bc1da44c0cc457a4a0a87"), looks := false }, kinds := [], alts := [], laidByText := true, laidKinds := [.data, .pinned], laidTests := true, laidLooks := .later }
def AffectedRightCardSaid : Prop := Claim7.holds Tryz.pinned (.plain (OpenSpec.ofChange affectedRightSpec)) affectedRightCard

/-- THE TIED CARD OF 'admissionlaw25.AffectedReplaced'. -/
def affectedReplacedCard : Claim7 := { stood := { row := affectedReplacedRow, standIns := [], harness := (true, "c4136a5f91365033f7c2be298c10f4ea51687846647bc1da44c0cc457a4a0a87"), looks := false }, kinds := [], alts := [], laidByText := true, laidKinds := [.data, .pinned], laidTests := true, laidLooks := .later }
def AffectedReplacedCardSaid : Prop := Claim7.holds Tryz.pinned (.plain (OpenSpec.ofChange affectedReplacedSpec)) affectedReplacedCard

/-- THE TIED CARD OF 'admissionlaw25.AffectedApart'. -/
def affectedApartCard : Claim7 := { stood := { row := affectedApartRow, standIns := [], harness := (true, "c4136a5f91365033f7c2be298c10f4ea51687846647bc1da44c0cc457a4a0a87"), looks := false }, kinds := [], alts := [], laidByText := true, laidKinds := [.data, .pinned], laidTests := true, laidLooks := .later }
def AffectedApartCardSaid : Prop := Claim7.holds Tryz.pinned (.plain (OpenSpec.ofChange affectedApartSpec)) affectedApartCard

/-- THE TIED CARD OF 'admissionlaw25.AffectedOthers'. -/
def affectedOthersCard : Claim7 := { stood := { row := affectedOthersRow, standIns := [], harness := (true, "c4136a5f91365033f7c2be298c10f4ea51687846647bc1da44c0cc457a4a0a87"), looks := false }, kinds := [], alts := [], laidByText := true, laidKinds := [.data, .pinned], laidTests := true, laidLooks := .later }
def AffectedOthersCardSaid : Prop := Claim7.holds Tryz.pinned (.plain (OpenSpec.ofChange affectedOthersSpec)) affectedOthersCard

/-- THE TIED CARD OF 'admissionlaw25.AffectedUnder'. -/
def affectedUnderCard : Claim7 := { stood := { row := affectedUnderRow, standIns := [], harness := (true, "c4136a5f91365033f7c2be298c10f4ea51687846647bc1da44c0cc457a4a0a87"), looks := false }, kinds := [], alts := [], laidByText := true, laidKinds := [.data, .pinned], laidTests := true, laidLooks := .later }
def AffectedUnderCardSaid : Prop := Claim7.holds Tryz.pinned (.plain (OpenSpec.ofChange affectedUnderSpec)) affectedUnderCard

/-- THE TIED CARD OF 'admissionlaw25.AffectedOrder'. -/
def affectedOrderCard : Claim7 := { stood := { row := affectedOrderRow, standIns := [], harness := (true, "c4136a5f91365033f7c2be298c10f4ea51687846647bc1da44c0cc457a4a0a87"), looks := false }, kinds := [], alts := [], laidByText := true, laidKinds := [.data, .pinned], laidTests := true, laidLooks := .later }
def AffectedOrderCardSaid : Prop := Claim7.holds Tryz.pinned (.plain (OpenSpec.ofChange affectedOrderSpec)) affectedOrderCard

/-- THE SECOND FORM's CARD OF 'admissionlaw25.AffectedHits'. -/
def affectedHitsUptoCard : Claim7 := { stood := { row := affectedHitsUptoRow, standIns := [], harness := (true, "c4136a5f91365033f7c2be298c10f4ea51687846647bc1da44c0cc457a4a0a87"), looks := false }, kinds := [], alts := [], laidByText := true, laidKinds := [.data, .pinned], laidTests := true, laidLooks := .later }
def AffectedHitsUptoCardSaid : Prop := Claim7.holds Tryz.pinned (.plain (OpenSpec.upto affectedHitsSpec)) affectedHitsUptoCard

/-- THE SECOND FORM's CARD OF 'admissionlaw25.AffectedRaw'. -/
def affectedRawUptoCard : Claim7 := { stood := { row := affectedRawUptoRow, standIns := [], harness := (true, "c4136a5f91365033f7c2be298c10f4ea51687846647bc1da44c0cc457a4a0a87"), looks := false }, kinds := [], alts := [], laidByText := true, laidKinds := [.data, .pinned], laidTests := true, laidLooks := .later }
def AffectedRawUptoCardSaid : Prop := Claim7.holds Tryz.pinned (.plain (OpenSpec.upto affectedRawSpec)) affectedRawUptoCard

/-- THE SECOND FORM's CARD OF 'admissionlaw25.AffectedUpgrade'. -/
def affectedUpgradeUptoCard : Claim7 := { stood := { row := affectedUpgradeUptoRow, standIns := [], harness := (true, "c4136a5f91365033f7c2be298c10f4ea51687846647bc1da44c0cc457a4a0a87"), looks := false }, kinds := [], alts := [], laidByText := true, laidKinds := [.data, .pinned], laidTests := true, laidLooks := .later }
def AffectedUpgradeUptoCardSaid : Prop := Claim7.holds Tryz.pinned (.plain (OpenSpec.upto affectedUpgradeSpec)) affectedUpgradeUptoCard

/-- THE SECOND FORM's CARD OF 'admissionlaw25.AffectedRight'. -/
def affectedRightUptoCard : Claim7 := { stood := { row := affectedRightUptoRow, standIns := [], harness := (true, "c4136a5f91365033f7c2be298c10f4ea51687846647bc1da44c0cc457a4a0a87"), looks := false }, kinds := [], alts := [], laidByText := true, laidKinds := [.data, .pinned], laidTests := true, laidLooks := .later }
def AffectedRightUptoCardSaid : Prop := Claim7.holds Tryz.pinned (.plain (OpenSpec.upto affectedRightSpec)) affectedRightUptoCard

/-- THE SECOND FORM's CARD OF 'admissionlaw25.AffectedReplaced'. -/
def affectedReplacedUptoCard : Claim7 := { stood := { row := affectedReplacedUptoRow, standIns := [], harness := (true, "c4136a5f91365033f7c2be298c10f4ea51687846647bc1da44c0cc457a4a0a87"), looks := false }, kinds := [], alts := [], laidByText := true, laidKinds := [.data, .pinned], laidTests := true, laidLooks := .later }
def AffectedReplacedUptoCardSaid : Prop := Claim7.holds Tryz.pinned (.plain (OpenSpec.upto affectedReplacedSpec)) affectedReplacedUptoCard

/-- THE SECOND FORM's CARD OF 'admissionlaw25.AffectedApart'. -/
def affectedApartUptoCard : Claim7 := { stood := { row := affectedApartUptoRow, standIns := [], harness := (true, "c4136a5f91365033f7c2be298c10f4ea51687846647bc1da44c0cc457a4a0a87"), looks := false }, kinds := [], alts := [], laidByText := true, laidKinds := [.data, .pinned], laidTests := true, laidLooks := .later }
def AffectedApartUptoCardSaid : Prop := Claim7.holds Tryz.pinned (.plain (OpenSpec.upto affectedApartSpec)) affectedApartUptoCard

/-- THE SECOND FORM's CARD OF 'admissionlaw25.AffectedOthers'. -/
def affectedOthersUptoCard : Claim7 := { stood := { row := affectedOthersUptoRow, standIns := [], harness := (true, "c4136a5f91365033f7c2be298c10f4ea51687846647bc1da44c0cc457a4a0a87"), looks := false }, kinds := [], alts := [], laidByText := true, laidKinds := [.data, .pinned], laidTests := true, laidLooks := .later }
def AffectedOthersUptoCardSaid : Prop := Claim7.holds Tryz.pinned (.plain (OpenSpec.upto affectedOthersSpec)) affectedOthersUptoCard

/-- THE SECOND FORM's CARD OF 'admissionlaw25.AffectedUnder'. -/
def affectedUnderUptoCard : Claim7 := { stood := { row := affectedUnderUptoRow, standIns := [], harness := (true, "c4136a5f91365033f7c2be298c10f4ea51687846647bc1da44c0cc457a4a0a87"), looks := false }, kinds := [], alts := [], laidByText := true, laidKinds := [.data, .pinned], laidTests := true, laidLooks := .later }
def AffectedUnderUptoCardSaid : Prop := Claim7.holds Tryz.pinned (.plain (OpenSpec.upto affectedUnderSpec)) affectedUnderUptoCard

/-- THE SECOND FORM's CARD OF 'admissionlaw25.AffectedOrder'. -/
def affectedOrderUptoCard : Claim7 := { stood := { row := affectedOrderUptoRow, standIns := [], harness := (true, "c4136a5f91365033f7c2be298c10f4ea51687846647bc1da44c0cc457a4a0a87"), looks := false }, kinds := [], alts := [], laidByText := true, laidKinds := [.data, .pinned], laidTests := true, laidLooks := .later }
def AffectedOrderUptoCardSaid : Prop := Claim7.holds Tryz.pinned (.plain (OpenSpec.upto affectedOrderSpec)) affectedOrderUptoCard
end Rows
end Go.Proofs.YtbikeahmldobkaaGreatDoor

/-
  DERIVED. GIVEN WITH THE SEED: THE CARDS: each row of YtiloljoancdcbaaGreatDoorRows.lean that lists a variable, with what it lists TIED to the program's text (the seventh form; the later family's looks); each row that meets fmt, with fmt's text TOLD by the authors' own Lean function (tested against real Go, not proved from fmt's source: count such statements apart). THE CARD IS WHAT COUNTS. Prove the row's statement (the work); the ties are given (YtiloljoancdcbaaGreatDoorTie.lean); close each card by the builder's one call (the guide's Derived/Test/ToyasCard.lean, 'card_holds'). Laid BY PROGRAM, IN A SANDBOX (cutbox-door.mjs). By AI agents, Wed Nov 11 2026. No macro, syntax, notation, axiom, sorry.
-/
import Derived.Test.YtiloljoancdcbaaGreatDoorRows
import GoSem.ClaimSeven
namespace Go.Proofs.YtiloljoancdcbaaGreatDoor
namespace Rows

/-- THE TIED CARD OF 'admissionlaw23.AdvisoryChanged'. -/
def advisoryChangedCard : Claim7 := { stood := { row := advisoryChangedRow, standIns := [], harness := (true, "065feb992cf0032d8c801279905397d7161989f1b4b18e1d0cf45ec6a0b8870f"), looks := false }, kinds := [], alts := [], laidByText := true, laidKinds := [.data, .data, .data, .data, .pinned], laidTests := true, laidLooks := .later }
def AdvisoryChangedCardSaid : Prop := Claim7.holds Tryz.pinned (.plain (OpenSpec.ofChange advisoryChangedSpec)) advisoryChangedCard

/-- THE TIED CARD OF 'admissionlaw23.AdvisorySpoilt'. -/
def advisorySpoiltCard : Claim7 := { stood := { row := advisorySpoiltRow, standIns := [], harness := (true, "065feb992cf0032d8c801279905397d7161989f1b4b18e1d0cf45ec6a0b8870f"), looks := false }, kinds := [], alts := [], laidByText := true, laidKinds := [.data, .data, .data, .data, .pinned], laidTests := true, laidLooks := .later }
def AdvisorySpoiltCardSaid : Prop := Claim7.holds Tryz.pinned (.plain (OpenSpec.ofChange advisorySpoiltSpec)) advisorySpoiltCard

/-- THE TIED CARD OF 'admissionlaw23.AdvisoryLines'. -/
def advisoryLinesCard : Claim7 := { stood := { row := advisoryLinesRow, standIns := [], harness := (true, "065feb992cf0032d8c801279905397d7161989f1b4b18e1d0cf45ec6a0b8870f"), looks := false }, kinds := [], alts := [], laidByText := true, laidKinds := [.data, .data, .data, .data, .pinned], laidTests := true, laidLooks := .later }
def AdvisoryLinesCardSaid : Prop := Claim7.holds Tryz.pinned (.plain (OpenSpec.ofChange advisoryLinesSpec)) advisoryLinesCard

/-- THE SECOND FORM's CARD OF 'admissionlaw23.AdvisoryChanged'. -/
def advisoryChangedUptoCard : Claim7 := { stood := { row := advisoryChangedUptoRow, standIns := [], harness := (true, "065feb992cf0032d8c801279905397d7161989f1b4b18e1d0cf45ec6a0b8870f"), looks := false }, kinds := [], alts := [], laidByText := true, laidKinds := [.data, .data, .data, .data, .pinned], laidTests := true, laidLooks := .later }
def AdvisoryChangedUptoCardSaid : Prop := Claim7.holds Tryz.pinned (.plain (OpenSpec.upto advisoryChangedSpec)) advisoryChangedUptoCard

/-- THE SECOND FORM's CARD OF 'admissionlaw23.AdvisorySpoilt'. -/
def advisorySpoiltUptoCard : Claim7 := { stood := { row := advisorySpoiltUptoRow, standIns := [], harness := (true, "065feb992cf0032d8c801279905397d7161989f1b4b18e1d0cf45ec6a0b8870f"), looks := false }, kinds := [], alts := [], laidByText := true, laidKinds := [.data, .data, .data, .data, .pinned], laidTests := true, laidLooks := .later }
def AdvisorySpoiltUptoCardSaid : Prop := Claim7.holds Tryz.pinned (.plain (OpenSpec.upto advisorySpoiltSpec)) advisorySpoiltUptoCard

/-- THE SECOND FORM's CARD OF 'admissionlaw23.AdvisoryLines'. -/
def advisoryLinesUptoCard : Claim7 := { stood := { row := advisoryLinesUptoRow, standIns := [], harness := (true, "065feb992cf0032d8c801279905397d7161989f1b4b18e1d0cf45ec6a0b8870f"), looks := false }, kinds := [], alts := [], laidByText := true, laidKinds := [.data, .data, .data, .data, .pinned], laidTests := true, laidLooks := .later }
def AdvisoryLinesUptoCardSaid : Prop := Claim7.holds Tryz.pinned (.plain (OpenSpec.upto advisoryLinesSpec)) advisoryLinesUptoCard
end Rows
end Go.Proofs.YtiloljoancdcbaaGreatDoor

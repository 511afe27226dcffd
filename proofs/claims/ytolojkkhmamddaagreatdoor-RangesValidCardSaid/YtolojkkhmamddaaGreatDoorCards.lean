/-
  DERIVED. GIVEN WITH THE SEED: THE CARDS: each row of YtolojkkhmamddaaGreatDoorRows.lean that lists a variable, with what it lists TIED to the program's text (the seventh form; the later family's looks); each row that meets fmt, with fmt's text TOLD by the authors' own Lean function (tested against real Go, not proved from fmt's source: count such statements apart). THE CARD IS WHAT COUNTS. Prove the row's statement (the work); the ties are given (YtolojkkhmamddaaGreatDoorTie.lean); close each card by the builder's one call (the guide's Derived/Test/ToyasCard.lean, 'card_holds'). Laid BY PROGRAM, IN A SANDBOX (cutbox-door.mjs). By AI agents, Wed Nov 11 2026. No macro, syntax, notation, axiom, sorry.
-/
import Derived.Test.YtolojkkhmamddaaGreatDoorRows
import GoSem.ClaimSeven
namespace Go.Proofs.YtolojkkhmamddaaGreatDoor
namespace Rows

/-- THE TIED CARD OF 'admissionlaw07.RangesSubset'. -/
def rangesSubsetCard : Claim7 := { stood := { row := rangesSubsetRow, standIns := [], harness := (true, "ffc0f0eeab3dac303505828089cbfdee663c3988775fcb634384b029b8742d70"), looks := false }, kinds := [], alts := [], laidByText := true, laidKinds := [.data, .pinned], laidTests := true, laidLooks := .later }
def RangesSubsetCardSaid : Prop := Claim7.holds Tryz.pinned (.plain (OpenSpec.ofChange rangesSubsetSpec)) rangesSubsetCard

/-- THE TIED CARD OF 'admissionlaw07.RangesBoolean'. -/
def rangesBooleanCard : Claim7 := { stood := { row := rangesBooleanRow, standIns := [], harness := (true, "ffc0f0eeab3dac303505828089cbfdee663c3988775fcb634384b029b8742d70"), looks := false }, kinds := [], alts := [], laidByText := true, laidKinds := [.data, .pinned], laidTests := true, laidLooks := .later }
def RangesBooleanCardSaid : Prop := Claim7.holds Tryz.pinned (.plain (OpenSpec.ofChange rangesBooleanSpec)) rangesBooleanCard

/-- THE TIED CARD OF 'admissionlaw07.RangesValid'. -/
def rangesValidCard : Claim7 := { stood := { row := rangesValidRow, standIns := [], harness := (true, "ffc0f0eeab3dac303505828089cbfdee663c3988775fcb634384b029b8742d70"), looks := false }, kinds := [], alts := [], laidByText := true, laidKinds := [.data, .pinned], laidTests := true, laidLooks := .later }
def RangesValidCardSaid : Prop := Claim7.holds Tryz.pinned (.plain (OpenSpec.ofChange rangesValidSpec)) rangesValidCard

/-- THE TIED CARD OF 'admissionlaw07.RangesAlgebra'. -/
def rangesAlgebraCard : Claim7 := { stood := { row := rangesAlgebraRow, standIns := [], harness := (true, "ffc0f0eeab3dac303505828089cbfdee663c3988775fcb634384b029b8742d70"), looks := false }, kinds := [], alts := [], laidByText := true, laidKinds := [.data, .pinned], laidTests := true, laidLooks := .later }
def RangesAlgebraCardSaid : Prop := Claim7.holds Tryz.pinned (.plain (OpenSpec.ofChange rangesAlgebraSpec)) rangesAlgebraCard

/-- THE TIED CARD OF 'admissionlaw07.RangesComputes'. -/
def rangesComputesCard : Claim7 := { stood := { row := rangesComputesRow, standIns := [], harness := (true, "ffc0f0eeab3dac303505828089cbfdee663c3988775fcb634384b029b8742d70"), looks := false }, kinds := [], alts := [], laidByText := true, laidKinds := [.data, .pinned], laidTests := true, laidLooks := .later }
def RangesComputesCardSaid : Prop := Claim7.holds Tryz.pinned (.plain (OpenSpec.ofChange rangesComputesSpec)) rangesComputesCard

/-- THE TIED CARD OF 'admissionlaw07.RangesTexts'. -/
def rangesTextsCard : Claim7 := { stood := { row := rangesTextsRow, standIns := [], harness := (true, "ffc0f0eeab3dac303505828089cbfdee663c3988775fcb634384b029b8742d70"), looks := false }, kinds := [], alts := [], laidByText := true, laidKinds := [.data, .pinned], laidTests := true, laidLooks := .later }
def RangesTextsCardSaid : Prop := Claim7.holds Tryz.pinned (.plain (OpenSpec.ofChange rangesTextsSpec)) rangesTextsCard

/-- THE TIED CARD OF 'admissionlaw07.RangesBack'. -/
def rangesBackCard : Claim7 := { stood := { row := rangesBackRow, standIns := [], harness := (true, "ffc0f0eeab3dac303505828089cbfdee663c3988775fcb634384b029b8742d70"), looks := false }, kinds := [], alts := [], laidByText := true, laidKinds := [.data, .pinned], laidTests := true, laidLooks := .later }
def RangesBackCardSaid : Prop := Claim7.holds Tryz.pinned (.plain (OpenSpec.ofChange rangesBackSpec)) rangesBackCard

/-- THE SECOND FORM's CARD OF 'admissionlaw07.RangesSubset'. -/
def rangesSubsetUptoCard : Claim7 := { stood := { row := rangesSubsetUptoRow, standIns := [], harness := (true, "ffc0f0eeab3dac303505828089cbfdee663c3988775fcb634384b029b8742d70"), looks := false }, kinds := [], alts := [], laidByText := true, laidKinds := [.data, .pinned], laidTests := true, laidLooks := .later }
def RangesSubsetUptoCardSaid : Prop := Claim7.holds Tryz.pinned (.plain (OpenSpec.upto rangesSubsetSpec)) rangesSubsetUptoCard

/-- THE SECOND FORM's CARD OF 'admissionlaw07.RangesBoolean'. -/
def rangesBooleanUptoCard : Claim7 := { stood := { row := rangesBooleanUptoRow, standIns := [], harness := (true, "ffc0f0eeab3dac303505828089cbfdee663c3988775fcb634384b029b8742d70"), looks := false }, kinds := [], alts := [], laidByText := true, laidKinds := [.data, .pinned], laidTests := true, laidLooks := .later }
def RangesBooleanUptoCardSaid : Prop := Claim7.holds Tryz.pinned (.plain (OpenSpec.upto rangesBooleanSpec)) rangesBooleanUptoCard

/-- THE SECOND FORM's CARD OF 'admissionlaw07.RangesValid'. -/
def rangesValidUptoCard : Claim7 := { stood := { row := rangesValidUptoRow, standIns := [], harness := (true, "ffc0f0eeab3dac303505828089cbfdee663c3988775fcb634384b029b8742d70"), looks := false }, kinds := [], alts := [], laidByText := true, laidKinds := [.data, .pinned], laidTests := true, laidLooks := .later }
def RangesValidUptoCardSaid : Prop := Claim7.holds Tryz.pinned (.plain (OpenSpec.upto rangesValidSpec)) rangesValidUptoCard

/-- THE SECOND FORM's CARD OF 'admissionlaw07.RangesAlgebra'. -/
def rangesAlgebraUptoCard : Claim7 := { stood := { row := rangesAlgebraUptoRow, standIns := [], harness := (true, "ffc0f0eeab3dac303505828089cbfdee663c3988775fcb634384b029b8742d70"), looks := false }, kinds := [], alts := [], laidByText := true, laidKinds := [.data, .pinned], laidTests := true, laidLooks := .later }
def RangesAlgebraUptoCardSaid : Prop := Claim7.holds Tryz.pinned (.plain (OpenSpec.upto rangesAlgebraSpec)) rangesAlgebraUptoCard

/-- THE SECOND FORM's CARD OF 'admissionlaw07.RangesComputes'. -/
def rangesComputesUptoCard : Claim7 := { stood := { row := rangesComputesUptoRow, standIns := [], harness := (true, "ffc0f0eeab3dac303505828089cbfdee663c3988775fcb634384b029b8742d70"), looks := false }, kinds := [], alts := [], laidByText := true, laidKinds := [.data, .pinned], laidTests := true, laidLooks := .later }
def RangesComputesUptoCardSaid : Prop := Claim7.holds Tryz.pinned (.plain (OpenSpec.upto rangesComputesSpec)) rangesComputesUptoCard

/-- THE SECOND FORM's CARD OF 'admissionlaw07.RangesTexts'. -/
def rangesTextsUptoCard : Claim7 := { stood := { row := rangesTextsUptoRow, standIns := [], harness := (true, "ffc0f0eeab3dac303505828089cbfdee663c3988775fcb634384b029b8742d70"), looks := false }, kinds := [], alts := [], laidByText := true, laidKinds := [.data, .pinned], laidTests := true, laidLooks := .later }
def RangesTextsUptoCardSaid : Prop := Claim7.holds Tryz.pinned (.plain (OpenSpec.upto rangesTextsSpec)) rangesTextsUptoCard

/-- THE SECOND FORM's CARD OF 'admissionlaw07.RangesBack'. -/
def rangesBackUptoCard : Claim7 := { stood := { row := rangesBackUptoRow, standIns := [], harness := (true, "ffc0f0eeab3dac303505828089cbfdee663c3988775fcb634384b029b8742d70"), looks := false }, kinds := [], alts := [], laidByText := true, laidKinds := [.data, .pinned], laidTests := true, laidLooks := .later }
def RangesBackUptoCardSaid : Prop := Claim7.holds Tryz.pinned (.plain (OpenSpec.upto rangesBackSpec)) rangesBackUptoCard
end Rows
end Go.Proofs.YtolojkkhmamddaaGreatDoor

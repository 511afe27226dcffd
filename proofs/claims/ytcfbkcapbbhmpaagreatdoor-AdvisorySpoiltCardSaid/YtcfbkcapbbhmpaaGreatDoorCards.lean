/-
  DERIVED. GIVEN WITH THE SEED: THE CARDS: each row of YtcfbkcapbbhmpaaGreatDoorRows.lean that lists a variable, with what it lists TIED to the program's text (the seventh form; the later family's looks); each row that meets fmt, with fmt's text TOLD by the authors' own Lean function (tested against real Go, not proved from fmt's source: count such statements apart). THE CARD IS WHAT COUNTS. Prove the row's statement (the work); the ties are given (YtcfbkcapbbhmpaaGreatDoorTie.lean); close each card by the builder's one call (the guide's Derived/Test/ToyasCard.lean, 'card_holds'). Laid BY PROGRAM, IN A SANDBOX (cutbox-door.mjs). By AI agents, Wed Nov 11 2026. No macro, syntax, notation, axiom, sorry.
-/
import Derived.Test.YtcfbkcapbbhmpaaGreatDoorRows
import GoSem.ClaimSeven
namespace Go.Proofs.YtcfbkcapbbhmpaaGreatDoor
namespace Rows

/-- THE TIED CARD OF 'admissionlaw23.AdvisorySpoilt'. -/
def advisorySpoiltCard : Claim7 := { stood := { row := advisorySpoiltRow, standIns := [], harness := (true, "cf39b6b6d98d1abfccebf889c611f0a81eefea4594d4d54e9801405b27154898"), looks := false }, kinds := [], alts := [], laidByText := true, laidKinds := [.data, .data, .data, .data, .pinned], laidTests := true, laidLooks := .later }
def AdvisorySpoiltCardSaid : Prop := Claim7.holds Tryz.pinned (.plain (OpenSpec.ofChange advisorySpoiltSpec)) advisorySpoiltCard

/-- THE SECOND FORM's CARD OF 'admissionlaw23.AdvisorySpoilt'. -/
def advisorySpoiltUptoCard : Claim7 := { stood := { row := advisorySpoiltUptoRow, standIns := [], harness := (true, "cf39b6b6d98d1abfccebf889c611f0a81eefea4594d4d54e9801405b27154898"), looks := false }, kinds := [], alts := [], laidByText := true, laidKinds := [.data, .data, .data, .data, .pinned], laidTests := true, laidLooks := .later }
def AdvisorySpoiltUptoCardSaid : Prop := Claim7.holds Tryz.pinned (.plain (OpenSpec.upto advisorySpoiltSpec)) advisorySpoiltUptoCard
end Rows
end Go.Proofs.YtcfbkcapbbhmpaaGreatDoor

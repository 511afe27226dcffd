/-
  DERIVED. GIVEN WITH THE SEED: THE CARDS: each row of YtabeblbhbekjaaaDoorRows.lean that lists a variable, with what it lists TIED to the program's text (the seventh form; the later family's looks); each row that meets fmt, with fmt's text TOLD by the authors' own Lean function (tested against real Go, not proved from fmt's source: count such statements apart). THE CARD IS WHAT COUNTS. Prove the row's statement (the work); the ties are given (YtabeblbhbekjaaaDoorTie.lean); close each card by the builder's one call (the guide's Derived/Test/ToyasCard.lean, 'card_holds'). Laid BY PROGRAM, IN A SANDBOX (cutbox-door.mjs). By AI agents, Wed Nov 11 2026. No macro, syntax, notation, axiom, sorry.
-/
import Derived.Test.YtabeblbhbekjaaaDoorRows
import GoSem.ClaimSeven
namespace Go.Proofs.YtabeblbhbekjaaaDoor
namespace Rows

/-- THE TIED CARD OF 'admissionlaw06.VersionValid'. -/
def versionValidCard : Claim7 := { stood := { row := versionValidRow, standIns := [], harness := (true, "ce535c0ed9d4f358e4eb2bae3d26c65d41a22c5966cb6e1757871d4dcc2000ab"), looks := false }, kinds := [], alts := [], laidByText := true, laidKinds := [.data, .pinned], laidTests := true, laidLooks := .later }
def VersionValidCardSaid : Prop := Claim7.holds Tryd.pinned (.plain (OpenSpec.ofChange versionValidSpec)) versionValidCard

/-- THE TIED CARD OF 'admissionlaw06.VersionCompares'. -/
def versionComparesCard : Claim7 := { stood := { row := versionComparesRow, standIns := [], harness := (true, "ce535c0ed9d4f358e4eb2bae3d26c65d41a22c5966cb6e1757871d4dcc2000ab"), looks := false }, kinds := [], alts := [], laidByText := true, laidKinds := [.data, .pinned], laidTests := true, laidLooks := .later }
def VersionComparesCardSaid : Prop := Claim7.holds Tryd.pinned (.plain (OpenSpec.ofChange versionComparesSpec)) versionComparesCard

/-- THE TIED CARD OF 'admissionlaw06.VersionTotal'. -/
def versionTotalCard : Claim7 := { stood := { row := versionTotalRow, standIns := [], harness := (true, "ce535c0ed9d4f358e4eb2bae3d26c65d41a22c5966cb6e1757871d4dcc2000ab"), looks := false }, kinds := [], alts := [], laidByText := true, laidKinds := [.data, .pinned], laidTests := true, laidLooks := .later }
def VersionTotalCardSaid : Prop := Claim7.holds Tryd.pinned (.plain (OpenSpec.ofChange versionTotalSpec)) versionTotalCard

/-- THE SECOND FORM's CARD OF 'admissionlaw06.VersionValid'. -/
def versionValidUptoCard : Claim7 := { stood := { row := versionValidUptoRow, standIns := [], harness := (true, "ce535c0ed9d4f358e4eb2bae3d26c65d41a22c5966cb6e1757871d4dcc2000ab"), looks := false }, kinds := [], alts := [], laidByText := true, laidKinds := [.data, .pinned], laidTests := true, laidLooks := .later }
def VersionValidUptoCardSaid : Prop := Claim7.holds Tryd.pinned (.plain (OpenSpec.upto versionValidSpec)) versionValidUptoCard

/-- THE SECOND FORM's CARD OF 'admissionlaw06.VersionCompares'. -/
def versionComparesUptoCard : Claim7 := { stood := { row := versionComparesUptoRow, standIns := [], harness := (true, "ce535c0ed9d4f358e4eb2bae3d26c65d41a22c5966cb6e1757871d4dcc2000ab"), looks := false }, kinds := [], alts := [], laidByText := true, laidKinds := [.data, .pinned], laidTests := true, laidLooks := .later }
def VersionComparesUptoCardSaid : Prop := Claim7.holds Tryd.pinned (.plain (OpenSpec.upto versionComparesSpec)) versionComparesUptoCard

/-- THE SECOND FORM's CARD OF 'admissionlaw06.VersionTotal'. -/
def versionTotalUptoCard : Claim7 := { stood := { row := versionTotalUptoRow, standIns := [], harness := (true, "ce535c0ed9d4f358e4eb2bae3d26c65d41a22c5966cb6e1757871d4dcc2000ab"), looks := false }, kinds := [], alts := [], laidByText := true, laidKinds := [.data, .pinned], laidTests := true, laidLooks := .later }
def VersionTotalUptoCardSaid : Prop := Claim7.holds Tryd.pinned (.plain (OpenSpec.upto versionTotalSpec)) versionTotalUptoCard
end Rows
end Go.Proofs.YtabeblbhbekjaaaDoor

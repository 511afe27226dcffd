/-
  DERIVED. GIVEN WITH THE SEED: THE CARDS: each row of YtabeblbhbekjaaaGreatDoorRows.lean that lists a variable, with what it lists TIED to the program's text (the seventh form; the later family's looks); each row that meets fmt, with fmt's text TOLD by the authors' own Lean function (tested against real Go, not proved from fmt's source: count such statements apart). THE CARD IS WHAT COUNTS. Prove the row's statement (the work); the ties are given (YtabeblbhbekjaaaGreatDoorTie.lean); close each card by the builder's one call (the guide's Derived/Test/ToyasCard.lean, 'card_holds'). Laid BY PROGRAM, IN A SANDBOX (cutbox-door.mjs). By AI agents, Wed Nov 11 2026. No macro, syntax, notation, axiom, sorry.
-/
import Derived.Test.YtabeblbhbekjaaaGreatDoorRows
import GoSem.ClaimSeven
namespace Go.Proofs.YtabeblbhbekjaaaGreatDoor
namespace Rows

/-- THE TIED CARD OF 'admissionlaw06.VersionKeys'. -/
def versionKeysCard : Claim7 := { stood := { row := versionKeysRow, standIns := [], harness := (true, "ead76c642f0d21eefadebf36605082bac5ef6ed265807265bed454e9cf56f6e0"), looks := false }, kinds := [], alts := [], laidByText := true, laidKinds := [.data, .pinned], laidTests := true, laidLooks := .later }
def VersionKeysCardSaid : Prop := Claim7.holds Tryz.pinned (.plain (OpenSpec.ofChange versionKeysSpec)) versionKeysCard

/-- THE TIED CARD OF 'admissionlaw06.VersionRefuses'. -/
def versionRefusesCard : Claim7 := { stood := { row := versionRefusesRow, standIns := [], harness := (true, "ead76c642f0d21eefadebf36605082bac5ef6ed265807265bed454e9cf56f6e0"), looks := false }, kinds := [], alts := [], laidByText := true, laidKinds := [.data, .pinned], laidTests := true, laidLooks := .later }
def VersionRefusesCardSaid : Prop := Claim7.holds Tryz.pinned (.plain (OpenSpec.ofChange versionRefusesSpec)) versionRefusesCard

/-- THE TIED CARD OF 'admissionlaw06.VersionSorts'. -/
def versionSortsCard : Claim7 := { stood := { row := versionSortsRow, standIns := [], harness := (true, "ead76c642f0d21eefadebf36605082bac5ef6ed265807265bed454e9cf56f6e0"), looks := false }, kinds := [], alts := [], laidByText := true, laidKinds := [.data, .pinned], laidTests := true, laidLooks := .later }
def VersionSortsCardSaid : Prop := Claim7.holds Tryz.pinned (.plain (OpenSpec.ofChange versionSortsSpec)) versionSortsCard

/-- THE SECOND FORM's CARD OF 'admissionlaw06.VersionKeys'. -/
def versionKeysUptoCard : Claim7 := { stood := { row := versionKeysUptoRow, standIns := [], harness := (true, "ead76c642f0d21eefadebf36605082bac5ef6ed265807265bed454e9cf56f6e0"), looks := false }, kinds := [], alts := [], laidByText := true, laidKinds := [.data, .pinned], laidTests := true, laidLooks := .later }
def VersionKeysUptoCardSaid : Prop := Claim7.holds Tryz.pinned (.plain (OpenSpec.upto versionKeysSpec)) versionKeysUptoCard

/-- THE SECOND FORM's CARD OF 'admissionlaw06.VersionRefuses'. -/
def versionRefusesUptoCard : Claim7 := { stood := { row := versionRefusesUptoRow, standIns := [], harness := (true, "ead76c642f0d21eefadebf36605082bac5ef6ed265807265bed454e9cf56f6e0"), looks := false }, kinds := [], alts := [], laidByText := true, laidKinds := [.data, .pinned], laidTests := true, laidLooks := .later }
def VersionRefusesUptoCardSaid : Prop := Claim7.holds Tryz.pinned (.plain (OpenSpec.upto versionRefusesSpec)) versionRefusesUptoCard

/-- THE SECOND FORM's CARD OF 'admissionlaw06.VersionSorts'. -/
def versionSortsUptoCard : Claim7 := { stood := { row := versionSortsUptoRow, standIns := [], harness := (true, "ead76c642f0d21eefadebf36605082bac5ef6ed265807265bed454e9cf56f6e0"), looks := false }, kinds := [], alts := [], laidByText := true, laidKinds := [.data, .pinned], laidTests := true, laidLooks := .later }
def VersionSortsUptoCardSaid : Prop := Claim7.holds Tryz.pinned (.plain (OpenSpec.upto versionSortsSpec)) versionSortsUptoCard
end Rows
end Go.Proofs.YtabeblbhbekjaaaGreatDoor

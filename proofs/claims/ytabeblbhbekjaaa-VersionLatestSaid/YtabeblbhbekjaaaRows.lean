/-
  No cell of these rows narrows 'for every input' (looked for: loops, veiled, ifaces, maps, wideKeys, modest, calm, conditions, laid).
  DERIVED. THE GIVEN ROWS OF THIS SEAT. 2 by the template 'for every input the law returns true; each argument reads behind the call as it read before'; 0 by the template 'total and deterministic' (their statements: YtabeblbhbekjaaaTotals.lean).
  GIVEN WITH THE SEED: the statements are not yours to turn. If you find one false, say at which input.
  Laid BY PROGRAM, IN A SANDBOX (cutbox-rows.mjs): the forced cells as the released guide's own fill.sh prints them over the translation 9ce4836d761281c2… (all of the seat's roots in one cut). By AI agents, Wed Nov 11 2026. No macro, syntax, notation, axiom, sorry.
-/
import Derived.Test.YtabeblbhbekjaaaChecked
import GoSem.Claim
import GoSem.ClaimJoined
import GoSem.ClaimMapViews
import Derived.JoinedTies
import Derived.KernelRfl
namespace Go.Proofs.Ytabeblbhbekjaaa
/- THE CELL 'sum', in the pinned program and in every row, IS THE sha256 OF THE DUMP (.gsa) THAT YtabeblbhbekjaaaProg.lean LOADS. Nothing in Lean hashes anything: it is a label: what it is worth is what the hold of that sum in a sandbox is worth. -/
noncomputable def Try.pinned : Pinned := { name := "ytabeblbhbekjaaa", sum := "9ce4836d761281c283c84296041ef2f9ca2ff84178099925ec10125dd302dc90", checked := Try.checked }
namespace Rows
def none {H : Type} : Left H := { results := [], args := [] }

/-- 'admissionlaw06.VersionNumbers': WHATEVER THE INPUT: true; the input reads as it did. -/
def versionNumbersSpec : ChangeSpec := { name := "versionNumbers", fn := fun _ => fun
  | [d1, d2] => { results := [.lit (.bool true)], args := [d1, d2] }
  | _ => none }
def versionNumbersRow : OpenClaim := { program := "ytabeblbhbekjaaa", sum := "9ce4836d761281c283c84296041ef2f9ca2ff84178099925ec10125dd302dc90", func := "admission/admissionlaw06.VersionNumbers", spec := "versionNumbers", unfollowed := true, recurses := true, apart := false }
def VersionNumbersSaid : Prop := versionNumbersRow.holds Try.pinned (OpenSpec.ofChange versionNumbersSpec)

/-- ITS FALSE NEIGHBOUR: 'it returns false'. Refute it at one input. -/
def versionNumbersWrong : ChangeSpec := { name := "versionNumbers", fn := fun _ => fun
  | [d1, d2] => { results := [.lit (.bool false)], args := [d1, d2] }
  | _ => none }
def VersionNumbersWrongFalsely : Prop := versionNumbersRow.holds Try.pinned (OpenSpec.ofChange versionNumbersWrong)

/-- 'admissionlaw06.VersionLatest': WHATEVER THE INPUT: true; the input reads as it did. -/
def versionLatestSpec : ChangeSpec := { name := "versionLatest", fn := fun _ => fun
  | [d1, d2] => { results := [.lit (.bool true)], args := [d1, d2] }
  | _ => none }
def versionLatestRow : OpenClaim := { program := "ytabeblbhbekjaaa", sum := "9ce4836d761281c283c84296041ef2f9ca2ff84178099925ec10125dd302dc90", func := "admission/admissionlaw06.VersionLatest", spec := "versionLatest", unfollowed := true, recurses := true, apart := false }
def VersionLatestSaid : Prop := versionLatestRow.holds Try.pinned (OpenSpec.ofChange versionLatestSpec)

/-- ITS FALSE NEIGHBOUR: 'it returns false'. Refute it at one input. -/
def versionLatestWrong : ChangeSpec := { name := "versionLatest", fn := fun _ => fun
  | [d1, d2] => { results := [.lit (.bool false)], args := [d1, d2] }
  | _ => none }
def VersionLatestWrongFalsely : Prop := versionLatestRow.holds Try.pinned (OpenSpec.ofChange versionLatestWrong)

/- THE SECOND FORM. 'bulk': how many values and letters a reading holds, each counted each time it is reached (what is shared counts as often as it is met; a slice's spare places count too). A statement '..UptoSaid' is the law's where the arguments, and the package variables that the reading takes, are together of bulk at most 1048576: NARROWER than '..Said'. Prove '..Said' where nothing that the law and all that it calls make is longer than what came in: it says more and counts as full. Else prove '..UptoSaid'. A law counts once. -/
mutual
def uptoBulk {H : Type} : DataW H → Nat
  | .lit (.string bytes) => bytes.length + 1
  | .lit _ => 1
  | .nil => 1
  | .ptr d => uptoBulk d + 1
  | .slice elems spare => uptoBulkAll elems + uptoBulkAll spare + 1
  | .agg parts => uptoBulkAll parts + 1
  | .iface _ d => uptoBulk d + 1
  | .map entries => uptoBulkEntries entries + 1
  | .held _ => 1
def uptoBulkAll {H : Type} : List (DataW H) → Nat
  | [] => 0
  | d :: r => uptoBulk d + uptoBulkAll r
def uptoBulkEntries {H : Type} : List (Lit × DataW H) → Nat
  | [] => 0
  | x :: r => uptoBulkEntry x + uptoBulkEntries r
def uptoBulkEntry {H : Type} : Lit × DataW H → Nat
  | (.string bytes, d) => bytes.length + uptoBulk d + 1
  | (_, d) => uptoBulk d + 1
 end
def uptoSmall : (H : Type) → List (DataW H) → Bool := fun _ ds => decide (uptoBulkAll ds ≤ 1048576)
def OpenSpec.upto (s : _root_.Go.ChangeSpec) : _root_.Go.OpenSpec := { _root_.Go.OpenSpec.ofChange s with cond := some uptoSmall }

/-- 'admissionlaw06.VersionNumbers', WHERE WHAT IT READS IS OF BULK AT MOST 1048576: true; the input reads as it did. -/
def versionNumbersUptoRow : OpenClaim := { program := "ytabeblbhbekjaaa", sum := "9ce4836d761281c283c84296041ef2f9ca2ff84178099925ec10125dd302dc90", func := "admission/admissionlaw06.VersionNumbers", spec := "versionNumbers", unfollowed := true, recurses := true, apart := false, narrowed := true }
def VersionNumbersUptoSaid : Prop := versionNumbersUptoRow.holds Try.pinned (OpenSpec.upto versionNumbersSpec)

/-- 'admissionlaw06.VersionLatest', WHERE WHAT IT READS IS OF BULK AT MOST 1048576: true; the input reads as it did. -/
def versionLatestUptoRow : OpenClaim := { program := "ytabeblbhbekjaaa", sum := "9ce4836d761281c283c84296041ef2f9ca2ff84178099925ec10125dd302dc90", func := "admission/admissionlaw06.VersionLatest", spec := "versionLatest", unfollowed := true, recurses := true, apart := false, narrowed := true }
def VersionLatestUptoSaid : Prop := versionLatestUptoRow.holds Try.pinned (OpenSpec.upto versionLatestSpec)

end Rows
end Go.Proofs.Ytabeblbhbekjaaa

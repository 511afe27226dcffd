/-
  NARROWER THAN 'FOR EVERY INPUT', by the rows' own cells (each row's printed sentence says how): InventoryPaths: laid · InventoryPurls: laid · InventoryMerges: laid.
  DERIVED. THE GIVEN ROWS OF THIS SEAT. 3 by the template 'for every input the law returns true; each argument reads behind the call as it read before'; 0 by the template 'total and deterministic' (their statements: YtoiabbhppbghdaaDoorTotals.lean).
  GIVEN WITH THE SEED: the statements are not yours to turn. If you find one false, say at which input.
  Laid BY PROGRAM, IN A SANDBOX (cutbox-rows.mjs): the forced cells as the released guide's own fill.sh prints them over the translation 92c9216dc8ea29ae… (all of the seat's roots in one cut). By AI agents, Wed Nov 11 2026. No macro, syntax, notation, axiom, sorry.
-/
import Derived.Test.YtoiabbhppbghdaaDoorChecked
import GoSem.PinnedTables
import GoSem.Claim
import GoSem.ClaimJoined
import GoSem.ClaimMapViews
import Derived.JoinedTies
import Derived.KernelRfl
namespace Go.Proofs.YtoiabbhppbghdaaDoor
/- THE CELL 'sum', in the pinned program and in every row, IS THE sha256 OF THE DUMP (.gsa) THAT YtoiabbhppbghdaaDoorProg.lean LOADS. Nothing in Lean hashes anything: it is a label: what it is worth is what the hold of that sum in a sandbox is worth. -/
noncomputable def Tryd.pinned : Pinned := { name := "ytoiabbhppbghdaadoor", sum := "92c9216dc8ea29ae1157d94f25a4548a3ea8faf5d8c7d98195b82c0edec64eb5", checked := Tryd.checked }
namespace Rows
def none {H : Type} : Left H := { results := [], args := [] }

/- WHAT THE LISTED PACKAGE-LEVEL VARIABLES READ AS WHEN THE CALL BEGINS. Each datum BY PROGRAM (the guide's laid-datum.mjs) off the statement by which the dump's own 'gosem.cut.vars' lays the variable. In a bare row this is a premise. The card (YtoiabbhppbghdaaDoorCards.lean) ties it to the program's text. -/
def laid_unicode_utf8_acceptRanges {H : Type} : DataW H := .agg [.agg [.lit (.int .u8 128), .lit (.int .u8 191)], .agg [.lit (.int .u8 160), .lit (.int .u8 191)], .agg [.lit (.int .u8 128), .lit (.int .u8 159)], .agg [.lit (.int .u8 144), .lit (.int .u8 191)], .agg [.lit (.int .u8 128), .lit (.int .u8 143)], .agg [.lit (.int .u8 0), .lit (.int .u8 0)], .agg [.lit (.int .u8 0), .lit (.int .u8 0)], .agg [.lit (.int .u8 0), .lit (.int .u8 0)], .agg [.lit (.int .u8 0), .lit (.int .u8 0)], .agg [.lit (.int .u8 0), .lit (.int .u8 0)], .agg [.lit (.int .u8 0), .lit (.int .u8 0)], .agg [.lit (.int .u8 0), .lit (.int .u8 0)], .agg [.lit (.int .u8 0), .lit (.int .u8 0)], .agg [.lit (.int .u8 0), .lit (.int .u8 0)], .agg [.lit (.int .u8 0), .lit (.int .u8 0)], .agg [.lit (.int .u8 0), .lit (.int .u8 0)]]
/-- One of Go's own tables, pinned by name: the form's constant. -/
def laid_unicode_utf8_first : DataW Unit := Go.Pinned.utf8First

/-- 'admissionlaw19.InventoryPaths': WHATEVER THE INPUT: true; the input reads as it did. -/
def inventoryPathsSpec : ChangeSpec := { name := "inventoryPaths", fn := fun _ => fun
  | [d1, d2, d3] => { results := [.lit (.bool true)], args := [d1, d2, d3] }
  | _ => none }
def inventoryPathsRow : OpenClaim := { program := "ytoiabbhppbghdaadoor", sum := "92c9216dc8ea29ae1157d94f25a4548a3ea8faf5d8c7d98195b82c0edec64eb5", func := "admission/admissionlaw19.InventoryPaths", spec := "inventoryPaths", inPlace := ["internal/bytealg.IndexByteString", "internal/bytealg.IndexString", "internal/bytealg.CountString"], unfollowed := true, recurses := true, named := ["internal/bytealg.MaxLen", "unicode/utf8.first", "unicode/utf8.acceptRanges"], plainKeys := false, apart := false, laid := [("unicode/utf8.acceptRanges", laid_unicode_utf8_acceptRanges), ("unicode/utf8.first", laid_unicode_utf8_first)] }
def InventoryPathsSaid : Prop := inventoryPathsRow.holds Tryd.pinned (OpenSpec.ofChange inventoryPathsSpec)

/-- ITS FALSE NEIGHBOUR: 'it returns false'. Refute it at one input. -/
def inventoryPathsWrong : ChangeSpec := { name := "inventoryPaths", fn := fun _ => fun
  | [d1, d2, d3] => { results := [.lit (.bool false)], args := [d1, d2, d3] }
  | _ => none }
def InventoryPathsWrongFalsely : Prop := inventoryPathsRow.holds Tryd.pinned (OpenSpec.ofChange inventoryPathsWrong)

/-- 'admissionlaw19.InventoryPurls': WHATEVER THE INPUT: true; the input reads as it did. -/
def inventoryPurlsSpec : ChangeSpec := { name := "inventoryPurls", fn := fun _ => fun
  | [d1, d2, d3] => { results := [.lit (.bool true)], args := [d1, d2, d3] }
  | _ => none }
def inventoryPurlsRow : OpenClaim := { program := "ytoiabbhppbghdaadoor", sum := "92c9216dc8ea29ae1157d94f25a4548a3ea8faf5d8c7d98195b82c0edec64eb5", func := "admission/admissionlaw19.InventoryPurls", spec := "inventoryPurls", inPlace := ["internal/bytealg.IndexByteString", "internal/bytealg.IndexString", "internal/bytealg.CountString"], unfollowed := true, recurses := true, named := ["internal/bytealg.MaxLen", "unicode/utf8.first", "unicode/utf8.acceptRanges"], plainKeys := false, apart := false, laid := [("unicode/utf8.acceptRanges", laid_unicode_utf8_acceptRanges), ("unicode/utf8.first", laid_unicode_utf8_first)] }
def InventoryPurlsSaid : Prop := inventoryPurlsRow.holds Tryd.pinned (OpenSpec.ofChange inventoryPurlsSpec)

/-- ITS FALSE NEIGHBOUR: 'it returns false'. Refute it at one input. -/
def inventoryPurlsWrong : ChangeSpec := { name := "inventoryPurls", fn := fun _ => fun
  | [d1, d2, d3] => { results := [.lit (.bool false)], args := [d1, d2, d3] }
  | _ => none }
def InventoryPurlsWrongFalsely : Prop := inventoryPurlsRow.holds Tryd.pinned (OpenSpec.ofChange inventoryPurlsWrong)

/-- 'admissionlaw19.InventoryMerges': WHATEVER THE INPUT: true; the input reads as it did. -/
def inventoryMergesSpec : ChangeSpec := { name := "inventoryMerges", fn := fun _ => fun
  | [d1, d2, d3] => { results := [.lit (.bool true)], args := [d1, d2, d3] }
  | _ => none }
def inventoryMergesRow : OpenClaim := { program := "ytoiabbhppbghdaadoor", sum := "92c9216dc8ea29ae1157d94f25a4548a3ea8faf5d8c7d98195b82c0edec64eb5", func := "admission/admissionlaw19.InventoryMerges", spec := "inventoryMerges", inPlace := ["internal/bytealg.IndexByteString", "internal/bytealg.IndexString", "internal/bytealg.CountString"], unfollowed := true, recurses := true, named := ["internal/bytealg.MaxLen", "unicode/utf8.first", "unicode/utf8.acceptRanges"], plainKeys := false, apart := false, laid := [("unicode/utf8.acceptRanges", laid_unicode_utf8_acceptRanges), ("unicode/utf8.first", laid_unicode_utf8_first)] }
def InventoryMergesSaid : Prop := inventoryMergesRow.holds Tryd.pinned (OpenSpec.ofChange inventoryMergesSpec)

/-- ITS FALSE NEIGHBOUR: 'it returns false'. Refute it at one input. -/
def inventoryMergesWrong : ChangeSpec := { name := "inventoryMerges", fn := fun _ => fun
  | [d1, d2, d3] => { results := [.lit (.bool false)], args := [d1, d2, d3] }
  | _ => none }
def InventoryMergesWrongFalsely : Prop := inventoryMergesRow.holds Tryd.pinned (OpenSpec.ofChange inventoryMergesWrong)

/- THE SECOND FORM. 'bulk': how many values and letters a reading holds, each counted each time it is reached (what is shared counts as often as it is met; a slice's spare places count too). A statement '..UptoSaid' is the law's where the arguments, and the package variables that the reading takes, are together of bulk at most 1048576: NARROWER than '..Said'. Prove '..Said' where nothing that the law and all that it calls make is longer than what came in: it says more and counts as full. Else prove '..UptoSaid'. A law counts once. -/
mutual
def uptoBulk {H : Type} : DataW H → Nat
  | .lit (.string bytes) => bytes.length + 1
  | .lit _ => 1
  | .nil => 1
  | .ptr d => uptoBulk d + 1
  | .slice elems spare => uptoBulkAll elems + uptoBulkAll spare + 1
  | .agg parts => uptoBulkAll parts + 1
  | .iface _ d => uptoBulk d + 1
  | .map entries => uptoBulkEntries entries + 1
  | .held _ => 1
def uptoBulkAll {H : Type} : List (DataW H) → Nat
  | [] => 0
  | d :: r => uptoBulk d + uptoBulkAll r
def uptoBulkEntries {H : Type} : List (Lit × DataW H) → Nat
  | [] => 0
  | x :: r => uptoBulkEntry x + uptoBulkEntries r
def uptoBulkEntry {H : Type} : Lit × DataW H → Nat
  | (.string bytes, d) => bytes.length + uptoBulk d + 1
  | (_, d) => uptoBulk d + 1
 end
def uptoSmall : (H : Type) → List (DataW H) → Bool := fun _ ds => decide (uptoBulkAll ds ≤ 1048576)
def OpenSpec.upto (s : _root_.Go.ChangeSpec) : _root_.Go.OpenSpec := { _root_.Go.OpenSpec.ofChange s with cond := some uptoSmall }

/-- 'admissionlaw19.InventoryPaths', WHERE WHAT IT READS IS OF BULK AT MOST 1048576: true; the input reads as it did. -/
def inventoryPathsUptoRow : OpenClaim := { program := "ytoiabbhppbghdaadoor", sum := "92c9216dc8ea29ae1157d94f25a4548a3ea8faf5d8c7d98195b82c0edec64eb5", func := "admission/admissionlaw19.InventoryPaths", spec := "inventoryPaths", inPlace := ["internal/bytealg.IndexByteString", "internal/bytealg.IndexString", "internal/bytealg.CountString"], unfollowed := true, recurses := true, named := ["internal/bytealg.MaxLen", "unicode/utf8.first", "unicode/utf8.acceptRanges"], plainKeys := false, apart := false, laid := [("unicode/utf8.acceptRanges", laid_unicode_utf8_acceptRanges), ("unicode/utf8.first", laid_unicode_utf8_first)], narrowed := true }
def InventoryPathsUptoSaid : Prop := inventoryPathsUptoRow.holds Tryd.pinned (OpenSpec.upto inventoryPathsSpec)

/-- 'admissionlaw19.InventoryPurls', WHERE WHAT IT READS IS OF BULK AT MOST 1048576: true; the input reads as it did. -/
def inventoryPurlsUptoRow : OpenClaim := { program := "ytoiabbhppbghdaadoor", sum := "92c9216dc8ea29ae1157d94f25a4548a3ea8faf5d8c7d98195b82c0edec64eb5", func := "admission/admissionlaw19.InventoryPurls", spec := "inventoryPurls", inPlace := ["internal/bytealg.IndexByteString", "internal/bytealg.IndexString", "internal/bytealg.CountString"], unfollowed := true, recurses := true, named := ["internal/bytealg.MaxLen", "unicode/utf8.first", "unicode/utf8.acceptRanges"], plainKeys := false, apart := false, laid := [("unicode/utf8.acceptRanges", laid_unicode_utf8_acceptRanges), ("unicode/utf8.first", laid_unicode_utf8_first)], narrowed := true }
def InventoryPurlsUptoSaid : Prop := inventoryPurlsUptoRow.holds Tryd.pinned (OpenSpec.upto inventoryPurlsSpec)

/-- 'admissionlaw19.InventoryMerges', WHERE WHAT IT READS IS OF BULK AT MOST 1048576: true; the input reads as it did. -/
def inventoryMergesUptoRow : OpenClaim := { program := "ytoiabbhppbghdaadoor", sum := "92c9216dc8ea29ae1157d94f25a4548a3ea8faf5d8c7d98195b82c0edec64eb5", func := "admission/admissionlaw19.InventoryMerges", spec := "inventoryMerges", inPlace := ["internal/bytealg.IndexByteString", "internal/bytealg.IndexString", "internal/bytealg.CountString"], unfollowed := true, recurses := true, named := ["internal/bytealg.MaxLen", "unicode/utf8.first", "unicode/utf8.acceptRanges"], plainKeys := false, apart := false, laid := [("unicode/utf8.acceptRanges", laid_unicode_utf8_acceptRanges), ("unicode/utf8.first", laid_unicode_utf8_first)], narrowed := true }
def InventoryMergesUptoSaid : Prop := inventoryMergesUptoRow.holds Tryd.pinned (OpenSpec.upto inventoryMergesSpec)

end Rows
end Go.Proofs.YtoiabbhppbghdaaDoor

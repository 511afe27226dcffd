/-
  NARROWER THAN 'FOR EVERY INPUT', by the rows' own cells (each row's printed sentence says how): RangesSubset: laid · RangesBoolean: laid · RangesValid: laid · RangesAlgebra: laid · RangesComputes: laid · RangesTexts: laid · RangesBack: laid.
  DERIVED. THE GIVEN ROWS OF THIS SEAT. 7 by the template 'for every input the law returns true; each argument reads behind the call as it read before'; 0 by the template 'total and deterministic' (their statements: YtolojkkhmamddaaGreatDoorTotals.lean).
  GIVEN WITH THE SEED: the statements are not yours to turn. If you find one false, say at which input.
  Laid BY PROGRAM, IN A SANDBOX (cutbox-rows.mjs): the forced cells as the released guide's own fill.sh prints them over the translation f759b4aab06382ea… (all of the seat's roots in one cut). By AI agents, Wed Nov 11 2026. No macro, syntax, notation, axiom, sorry.
-/
import Derived.Test.YtolojkkhmamddaaGreatDoorChecked
import GoSem.PinnedTables
import GoSem.Claim
import GoSem.ClaimJoined
import GoSem.ClaimMapViews
import Derived.JoinedTies
import Derived.KernelRfl
namespace Go.Proofs.YtolojkkhmamddaaGreatDoor
/- THE CELL 'sum', in the pinned program and in every row, IS THE sha256 OF THE DUMP (.gsa) THAT YtolojkkhmamddaaGreatDoorProg.lean LOADS. Nothing in Lean hashes anything: it is a label: what it is worth is what the hold of that sum in a sandbox is worth. -/
noncomputable def Tryz.pinned : Pinned := { name := "ytolojkkhmamddaagreatdoor", sum := "f759b4aab06382eab8e6fb041737563eda5739de8f57ade01ab95041cfd64b91", checked := Tryz.checked }
namespace Rows
def none {H : Type} : Left H := { results := [], args := [] }

/- WHAT THE LISTED PACKAGE-LEVEL VARIABLES READ AS WHEN THE CALL BEGINS. Each datum BY PROGRAM (the guide's laid-datum.mjs) off the statement by which the dump's own 'gosem.cut.vars' lays the variable. In a bare row this is a premise. The card (YtolojkkhmamddaaGreatDoorCards.lean) ties it to the program's text. -/
def laid_unicode_utf8_acceptRanges {H : Type} : DataW H := .agg [.agg [.lit (.int .u8 128), .lit (.int .u8 191)], .agg [.lit (.int .u8 160), .lit (.int .u8 191)], .agg [.lit (.int .u8 128), .lit (.int .u8 159)], .agg [.lit (.int .u8 144), .lit (.int .u8 191)], .agg [.lit (.int .u8 128), .lit (.int .u8 143)], .agg [.lit (.int .u8 0), .lit (.int .u8 0)], .agg [.lit (.int .u8 0), .lit (.int .u8 0)], .agg [.lit (.int .u8 0), .lit (.int .u8 0)], .agg [.lit (.int .u8 0), .lit (.int .u8 0)], .agg [.lit (.int .u8 0), .lit (.int .u8 0)], .agg [.lit (.int .u8 0), .lit (.int .u8 0)], .agg [.lit (.int .u8 0), .lit (.int .u8 0)], .agg [.lit (.int .u8 0), .lit (.int .u8 0)], .agg [.lit (.int .u8 0), .lit (.int .u8 0)], .agg [.lit (.int .u8 0), .lit (.int .u8 0)], .agg [.lit (.int .u8 0), .lit (.int .u8 0)]]
/-- One of Go's own tables, pinned by name: the form's constant. -/
def laid_unicode_utf8_first : DataW Unit := Go.Pinned.utf8First

/-- 'admissionlaw07.RangesSubset': WHATEVER THE INPUT: true; the input reads as it did. -/
def rangesSubsetSpec : ChangeSpec := { name := "rangesSubset", fn := fun _ => fun
  | [d] => { results := [.lit (.bool true)], args := [d] }
  | _ => none }
def rangesSubsetRow : OpenClaim := { program := "ytolojkkhmamddaagreatdoor", sum := "f759b4aab06382eab8e6fb041737563eda5739de8f57ade01ab95041cfd64b91", func := "admission/admissionlaw07.RangesSubset", spec := "rangesSubset", inPlace := ["internal/bytealg.CountString", "internal/bytealg.IndexByteString", "internal/bytealg.IndexString", "internal/bytealg.abigen_runtime_cmpstring"], unfollowed := true, recurses := true, named := ["unicode/utf8.first", "unicode/utf8.acceptRanges", "internal/bytealg.MaxLen"], apart := false, laid := [("unicode/utf8.acceptRanges", laid_unicode_utf8_acceptRanges), ("unicode/utf8.first", laid_unicode_utf8_first)] }
def RangesSubsetSaid : Prop := rangesSubsetRow.holds Tryz.pinned (OpenSpec.ofChange rangesSubsetSpec)

/-- ITS FALSE NEIGHBOUR: 'it returns false'. Refute it at one input. -/
def rangesSubsetWrong : ChangeSpec := { name := "rangesSubset", fn := fun _ => fun
  | [d] => { results := [.lit (.bool false)], args := [d] }
  | _ => none }
def RangesSubsetWrongFalsely : Prop := rangesSubsetRow.holds Tryz.pinned (OpenSpec.ofChange rangesSubsetWrong)

/-- 'admissionlaw07.RangesBoolean': WHATEVER THE INPUT: true; the input reads as it did. -/
def rangesBooleanSpec : ChangeSpec := { name := "rangesBoolean", fn := fun _ => fun
  | [d] => { results := [.lit (.bool true)], args := [d] }
  | _ => none }
def rangesBooleanRow : OpenClaim := { program := "ytolojkkhmamddaagreatdoor", sum := "f759b4aab06382eab8e6fb041737563eda5739de8f57ade01ab95041cfd64b91", func := "admission/admissionlaw07.RangesBoolean", spec := "rangesBoolean", inPlace := ["internal/bytealg.CountString", "internal/bytealg.IndexByteString", "internal/bytealg.IndexString", "internal/bytealg.abigen_runtime_cmpstring"], unfollowed := true, recurses := true, named := ["unicode/utf8.first", "unicode/utf8.acceptRanges", "internal/bytealg.MaxLen"], apart := false, laid := [("unicode/utf8.acceptRanges", laid_unicode_utf8_acceptRanges), ("unicode/utf8.first", laid_unicode_utf8_first)] }
def RangesBooleanSaid : Prop := rangesBooleanRow.holds Tryz.pinned (OpenSpec.ofChange rangesBooleanSpec)

/-- ITS FALSE NEIGHBOUR: 'it returns false'. Refute it at one input. -/
def rangesBooleanWrong : ChangeSpec := { name := "rangesBoolean", fn := fun _ => fun
  | [d] => { results := [.lit (.bool false)], args := [d] }
  | _ => none }
def RangesBooleanWrongFalsely : Prop := rangesBooleanRow.holds Tryz.pinned (OpenSpec.ofChange rangesBooleanWrong)

/-- 'admissionlaw07.RangesValid': WHATEVER THE INPUT: true; the input reads as it did. -/
def rangesValidSpec : ChangeSpec := { name := "rangesValid", fn := fun _ => fun
  | [d1, d2, d3] => { results := [.lit (.bool true)], args := [d1, d2, d3] }
  | _ => none }
def rangesValidRow : OpenClaim := { program := "ytolojkkhmamddaagreatdoor", sum := "f759b4aab06382eab8e6fb041737563eda5739de8f57ade01ab95041cfd64b91", func := "admission/admissionlaw07.RangesValid", spec := "rangesValid", inPlace := ["internal/bytealg.CountString", "internal/bytealg.IndexByteString", "internal/bytealg.IndexString", "internal/bytealg.abigen_runtime_cmpstring"], unfollowed := true, recurses := true, named := ["unicode/utf8.first", "unicode/utf8.acceptRanges", "internal/bytealg.MaxLen"], apart := false, laid := [("unicode/utf8.acceptRanges", laid_unicode_utf8_acceptRanges), ("unicode/utf8.first", laid_unicode_utf8_first)] }
def RangesValidSaid : Prop := rangesValidRow.holds Tryz.pinned (OpenSpec.ofChange rangesValidSpec)

/-- ITS FALSE NEIGHBOUR: 'it returns false'. Refute it at one input. -/
def rangesValidWrong : ChangeSpec := { name := "rangesValid", fn := fun _ => fun
  | [d1, d2, d3] => { results := [.lit (.bool false)], args := [d1, d2, d3] }
  | _ => none }
def RangesValidWrongFalsely : Prop := rangesValidRow.holds Tryz.pinned (OpenSpec.ofChange rangesValidWrong)

/-- 'admissionlaw07.RangesAlgebra': WHATEVER THE INPUT: true; the input reads as it did. -/
def rangesAlgebraSpec : ChangeSpec := { name := "rangesAlgebra", fn := fun _ => fun
  | [d] => { results := [.lit (.bool true)], args := [d] }
  | _ => none }
def rangesAlgebraRow : OpenClaim := { program := "ytolojkkhmamddaagreatdoor", sum := "f759b4aab06382eab8e6fb041737563eda5739de8f57ade01ab95041cfd64b91", func := "admission/admissionlaw07.RangesAlgebra", spec := "rangesAlgebra", inPlace := ["internal/bytealg.CountString", "internal/bytealg.IndexByteString", "internal/bytealg.IndexString", "internal/bytealg.abigen_runtime_cmpstring"], unfollowed := true, recurses := true, named := ["unicode/utf8.first", "unicode/utf8.acceptRanges", "internal/bytealg.MaxLen"], apart := false, laid := [("unicode/utf8.acceptRanges", laid_unicode_utf8_acceptRanges), ("unicode/utf8.first", laid_unicode_utf8_first)] }
def RangesAlgebraSaid : Prop := rangesAlgebraRow.holds Tryz.pinned (OpenSpec.ofChange rangesAlgebraSpec)

/-- ITS FALSE NEIGHBOUR: 'it returns false'. Refute it at one input. -/
def rangesAlgebraWrong : ChangeSpec := { name := "rangesAlgebra", fn := fun _ => fun
  | [d] => { results := [.lit (.bool false)], args := [d] }
  | _ => none }
def RangesAlgebraWrongFalsely : Prop := rangesAlgebraRow.holds Tryz.pinned (OpenSpec.ofChange rangesAlgebraWrong)

/-- 'admissionlaw07.RangesComputes': WHATEVER THE INPUT: true; the input reads as it did. -/
def rangesComputesSpec : ChangeSpec := { name := "rangesComputes", fn := fun _ => fun
  | [d1, d2, d3] => { results := [.lit (.bool true)], args := [d1, d2, d3] }
  | _ => none }
def rangesComputesRow : OpenClaim := { program := "ytolojkkhmamddaagreatdoor", sum := "f759b4aab06382eab8e6fb041737563eda5739de8f57ade01ab95041cfd64b91", func := "admission/admissionlaw07.RangesComputes", spec := "rangesComputes", inPlace := ["internal/bytealg.CountString", "internal/bytealg.IndexByteString", "internal/bytealg.IndexString", "internal/bytealg.abigen_runtime_cmpstring"], unfollowed := true, recurses := true, named := ["unicode/utf8.first", "unicode/utf8.acceptRanges", "internal/bytealg.MaxLen"], apart := false, laid := [("unicode/utf8.acceptRanges", laid_unicode_utf8_acceptRanges), ("unicode/utf8.first", laid_unicode_utf8_first)] }
def RangesComputesSaid : Prop := rangesComputesRow.holds Tryz.pinned (OpenSpec.ofChange rangesComputesSpec)

/-- ITS FALSE NEIGHBOUR: 'it returns false'. Refute it at one input. -/
def rangesComputesWrong : ChangeSpec := { name := "rangesComputes", fn := fun _ => fun
  | [d1, d2, d3] => { results := [.lit (.bool false)], args := [d1, d2, d3] }
  | _ => none }
def RangesComputesWrongFalsely : Prop := rangesComputesRow.holds Tryz.pinned (OpenSpec.ofChange rangesComputesWrong)

/-- 'admissionlaw07.RangesTexts': WHATEVER THE INPUT: true; the input reads as it did. -/
def rangesTextsSpec : ChangeSpec := { name := "rangesTexts", fn := fun _ => fun
  | [d1, d2, d3] => { results := [.lit (.bool true)], args := [d1, d2, d3] }
  | _ => none }
def rangesTextsRow : OpenClaim := { program := "ytolojkkhmamddaagreatdoor", sum := "f759b4aab06382eab8e6fb041737563eda5739de8f57ade01ab95041cfd64b91", func := "admission/admissionlaw07.RangesTexts", spec := "rangesTexts", inPlace := ["internal/abi.NoEscape", "internal/bytealg.MakeNoZero", "internal/bytealg.IndexByteString", "internal/bytealg.IndexString", "internal/bytealg.CountString", "internal/bytealg.abigen_runtime_cmpstring"], unfollowed := true, recurses := true, named := ["internal/bytealg.MaxLen", "unicode/utf8.first", "unicode/utf8.acceptRanges"], apart := false, laid := [("unicode/utf8.acceptRanges", laid_unicode_utf8_acceptRanges), ("unicode/utf8.first", laid_unicode_utf8_first)] }
def RangesTextsSaid : Prop := rangesTextsRow.holds Tryz.pinned (OpenSpec.ofChange rangesTextsSpec)

/-- ITS FALSE NEIGHBOUR: 'it returns false'. Refute it at one input. -/
def rangesTextsWrong : ChangeSpec := { name := "rangesTexts", fn := fun _ => fun
  | [d1, d2, d3] => { results := [.lit (.bool false)], args := [d1, d2, d3] }
  | _ => none }
def RangesTextsWrongFalsely : Prop := rangesTextsRow.holds Tryz.pinned (OpenSpec.ofChange rangesTextsWrong)

/-- 'admissionlaw07.RangesBack': WHATEVER THE INPUT: true; the input reads as it did. -/
def rangesBackSpec : ChangeSpec := { name := "rangesBack", fn := fun _ => fun
  | [d1, d2] => { results := [.lit (.bool true)], args := [d1, d2] }
  | _ => none }
def rangesBackRow : OpenClaim := { program := "ytolojkkhmamddaagreatdoor", sum := "f759b4aab06382eab8e6fb041737563eda5739de8f57ade01ab95041cfd64b91", func := "admission/admissionlaw07.RangesBack", spec := "rangesBack", inPlace := ["internal/bytealg.CountString", "internal/bytealg.IndexByteString", "internal/bytealg.IndexString", "internal/bytealg.abigen_runtime_cmpstring", "internal/abi.NoEscape", "internal/bytealg.MakeNoZero"], unfollowed := true, recurses := true, named := ["unicode/utf8.first", "unicode/utf8.acceptRanges", "internal/bytealg.MaxLen"], apart := false, laid := [("unicode/utf8.acceptRanges", laid_unicode_utf8_acceptRanges), ("unicode/utf8.first", laid_unicode_utf8_first)] }
def RangesBackSaid : Prop := rangesBackRow.holds Tryz.pinned (OpenSpec.ofChange rangesBackSpec)

/-- ITS FALSE NEIGHBOUR: 'it returns false'. Refute it at one input. -/
def rangesBackWrong : ChangeSpec := { name := "rangesBack", fn := fun _ => fun
  | [d1, d2] => { results := [.lit (.bool false)], args := [d1, d2] }
  | _ => none }
def RangesBackWrongFalsely : Prop := rangesBackRow.holds Tryz.pinned (OpenSpec.ofChange rangesBackWrong)

/- THE SECOND FORM. 'bulk': how many values and letters a reading holds, each counted each time it is reached (what is shared counts as often as it is met; a slice's spare places count too). A statement '..UptoSaid' is the law's where the arguments, and the package variables that the reading takes, are together of bulk at most 1048576: NARROWER than '..Said'. Prove '..Said' where nothing that the law and all that it calls make is longer than what came in: it says more and counts as full. Else prove '..UptoSaid'. A law counts once. -/
mutual
def uptoBulk {H : Type} : DataW H → Nat
  | .lit (.string bytes) => bytes.length + 1
  | .lit _ => 1
  | .nil => 1
  | .ptr d => uptoBulk d + 1
  | .slice elems spare => uptoBulkAll elems + uptoBulkAll spare + 1
  | .agg parts => uptoBulkAll parts + 1
  | .iface _ d => uptoBulk d + 1
  | .map entries => uptoBulkEntries entries + 1
  | .held _ => 1
def uptoBulkAll {H : Type} : List (DataW H) → Nat
  | [] => 0
  | d :: r => uptoBulk d + uptoBulkAll r
def uptoBulkEntries {H : Type} : List (Lit × DataW H) → Nat
  | [] => 0
  | x :: r => uptoBulkEntry x + uptoBulkEntries r
def uptoBulkEntry {H : Type} : Lit × DataW H → Nat
  | (.string bytes, d) => bytes.length + uptoBulk d + 1
  | (_, d) => uptoBulk d + 1
 end
def uptoSmall : (H : Type) → List (DataW H) → Bool := fun _ ds => decide (uptoBulkAll ds ≤ 1048576)
def OpenSpec.upto (s : _root_.Go.ChangeSpec) : _root_.Go.OpenSpec := { _root_.Go.OpenSpec.ofChange s with cond := some uptoSmall }

/-- 'admissionlaw07.RangesSubset', WHERE WHAT IT READS IS OF BULK AT MOST 1048576: true; the input reads as it did. -/
def rangesSubsetUptoRow : OpenClaim := { program := "ytolojkkhmamddaagreatdoor", sum := "f759b4aab06382eab8e6fb041737563eda5739de8f57ade01ab95041cfd64b91", func := "admission/admissionlaw07.RangesSubset", spec := "rangesSubset", inPlace := ["internal/bytealg.CountString", "internal/bytealg.IndexByteString", "internal/bytealg.IndexString", "internal/bytealg.abigen_runtime_cmpstring"], unfollowed := true, recurses := true, named := ["unicode/utf8.first", "unicode/utf8.acceptRanges", "internal/bytealg.MaxLen"], apart := false, laid := [("unicode/utf8.acceptRanges", laid_unicode_utf8_acceptRanges), ("unicode/utf8.first", laid_unicode_utf8_first)], narrowed := true }
def RangesSubsetUptoSaid : Prop := rangesSubsetUptoRow.holds Tryz.pinned (OpenSpec.upto rangesSubsetSpec)

/-- 'admissionlaw07.RangesBoolean', WHERE WHAT IT READS IS OF BULK AT MOST 1048576: true; the input reads as it did. -/
def rangesBooleanUptoRow : OpenClaim := { program := "ytolojkkhmamddaagreatdoor", sum := "f759b4aab06382eab8e6fb041737563eda5739de8f57ade01ab95041cfd64b91", func := "admission/admissionlaw07.RangesBoolean", spec := "rangesBoolean", inPlace := ["internal/bytealg.CountString", "internal/bytealg.IndexByteString", "internal/bytealg.IndexString", "internal/bytealg.abigen_runtime_cmpstring"], unfollowed := true, recurses := true, named := ["unicode/utf8.first", "unicode/utf8.acceptRanges", "internal/bytealg.MaxLen"], apart := false, laid := [("unicode/utf8.acceptRanges", laid_unicode_utf8_acceptRanges), ("unicode/utf8.first", laid_unicode_utf8_first)], narrowed := true }
def RangesBooleanUptoSaid : Prop := rangesBooleanUptoRow.holds Tryz.pinned (OpenSpec.upto rangesBooleanSpec)

/-- 'admissionlaw07.RangesValid', WHERE WHAT IT READS IS OF BULK AT MOST 1048576: true; the input reads as it did. -/
def rangesValidUptoRow : OpenClaim := { program := "ytolojkkhmamddaagreatdoor", sum := "f759b4aab06382eab8e6fb041737563eda5739de8f57ade01ab95041cfd64b91", func := "admission/admissionlaw07.RangesValid", spec := "rangesValid", inPlace := ["internal/bytealg.CountString", "internal/bytealg.IndexByteString", "internal/bytealg.IndexString", "internal/bytealg.abigen_runtime_cmpstring"], unfollowed := true, recurses := true, named := ["unicode/utf8.first", "unicode/utf8.acceptRanges", "internal/bytealg.MaxLen"], apart := false, laid := [("unicode/utf8.acceptRanges", laid_unicode_utf8_acceptRanges), ("unicode/utf8.first", laid_unicode_utf8_first)], narrowed := true }
def RangesValidUptoSaid : Prop := rangesValidUptoRow.holds Tryz.pinned (OpenSpec.upto rangesValidSpec)

/-- 'admissionlaw07.RangesAlgebra', WHERE WHAT IT READS IS OF BULK AT MOST 1048576: true; the input reads as it did. -/
def rangesAlgebraUptoRow : OpenClaim := { program := "ytolojkkhmamddaagreatdoor", sum := "f759b4aab06382eab8e6fb041737563eda5739de8f57ade01ab95041cfd64b91", func := "admission/admissionlaw07.RangesAlgebra", spec := "rangesAlgebra", inPlace := ["internal/bytealg.CountString", "internal/bytealg.IndexByteString", "internal/bytealg.IndexString", "internal/bytealg.abigen_runtime_cmpstring"], unfollowed := true, recurses := true, named := ["unicode/utf8.first", "unicode/utf8.acceptRanges", "internal/bytealg.MaxLen"], apart := false, laid := [("unicode/utf8.acceptRanges", laid_unicode_utf8_acceptRanges), ("unicode/utf8.first", laid_unicode_utf8_first)], narrowed := true }
def RangesAlgebraUptoSaid : Prop := rangesAlgebraUptoRow.holds Tryz.pinned (OpenSpec.upto rangesAlgebraSpec)

/-- 'admissionlaw07.RangesComputes', WHERE WHAT IT READS IS OF BULK AT MOST 1048576: true; the input reads as it did. -/
def rangesComputesUptoRow : OpenClaim := { program := "ytolojkkhmamddaagreatdoor", sum := "f759b4aab06382eab8e6fb041737563eda5739de8f57ade01ab95041cfd64b91", func := "admission/admissionlaw07.RangesComputes", spec := "rangesComputes", inPlace := ["internal/bytealg.CountString", "internal/bytealg.IndexByteString", "internal/bytealg.IndexString", "internal/bytealg.abigen_runtime_cmpstring"], unfollowed := true, recurses := true, named := ["unicode/utf8.first", "unicode/utf8.acceptRanges", "internal/bytealg.MaxLen"], apart := false, laid := [("unicode/utf8.acceptRanges", laid_unicode_utf8_acceptRanges), ("unicode/utf8.first", laid_unicode_utf8_first)], narrowed := true }
def RangesComputesUptoSaid : Prop := rangesComputesUptoRow.holds Tryz.pinned (OpenSpec.upto rangesComputesSpec)

/-- 'admissionlaw07.RangesTexts', WHERE WHAT IT READS IS OF BULK AT MOST 1048576: true; the input reads as it did. -/
def rangesTextsUptoRow : OpenClaim := { program := "ytolojkkhmamddaagreatdoor", sum := "f759b4aab06382eab8e6fb041737563eda5739de8f57ade01ab95041cfd64b91", func := "admission/admissionlaw07.RangesTexts", spec := "rangesTexts", inPlace := ["internal/abi.NoEscape", "internal/bytealg.MakeNoZero", "internal/bytealg.IndexByteString", "internal/bytealg.IndexString", "internal/bytealg.CountString", "internal/bytealg.abigen_runtime_cmpstring"], unfollowed := true, recurses := true, named := ["internal/bytealg.MaxLen", "unicode/utf8.first", "unicode/utf8.acceptRanges"], apart := false, laid := [("unicode/utf8.acceptRanges", laid_unicode_utf8_acceptRanges), ("unicode/utf8.first", laid_unicode_utf8_first)], narrowed := true }
def RangesTextsUptoSaid : Prop := rangesTextsUptoRow.holds Tryz.pinned (OpenSpec.upto rangesTextsSpec)

/-- 'admissionlaw07.RangesBack', WHERE WHAT IT READS IS OF BULK AT MOST 1048576: true; the input reads as it did. -/
def rangesBackUptoRow : OpenClaim := { program := "ytolojkkhmamddaagreatdoor", sum := "f759b4aab06382eab8e6fb041737563eda5739de8f57ade01ab95041cfd64b91", func := "admission/admissionlaw07.RangesBack", spec := "rangesBack", inPlace := ["internal/bytealg.CountString", "internal/bytealg.IndexByteString", "internal/bytealg.IndexString", "internal/bytealg.abigen_runtime_cmpstring", "internal/abi.NoEscape", "internal/bytealg.MakeNoZero"], unfollowed := true, recurses := true, named := ["unicode/utf8.first", "unicode/utf8.acceptRanges", "internal/bytealg.MaxLen"], apart := false, laid := [("unicode/utf8.acceptRanges", laid_unicode_utf8_acceptRanges), ("unicode/utf8.first", laid_unicode_utf8_first)], narrowed := true }
def RangesBackUptoSaid : Prop := rangesBackUptoRow.holds Tryz.pinned (OpenSpec.upto rangesBackSpec)

end Rows
end Go.Proofs.YtolojkkhmamddaaGreatDoor

/-
  NARROWER THAN 'FOR EVERY INPUT', by the rows' own cells (each row's printed sentence says how): AffectedHits: laid · AffectedRaw: laid · AffectedUpgrade: laid · AffectedRight: laid · AffectedReplaced: laid · AffectedApart: laid · AffectedOthers: laid · AffectedUnder: laid · AffectedOrder: laid.
  DERIVED. THE GIVEN ROWS OF THIS SEAT. 9 by the template 'for every input the law returns true; each argument reads behind the call as it read before'; 0 by the template 'total and deterministic' (their statements: YtbikeahmldobkaaGreatDoorTotals.lean).
  GIVEN WITH THE SEED: the statements are not yours to turn. If you find one false, say at which input.
  Laid BY PROGRAM, IN A SANDBOX (cutbox-rows.mjs): the forced cells as the released guide's own fill.sh prints them over the translation 30205c6041f74eff… (all of the seat's roots in one cut). By AI agents, Wed Nov 11 2026. No macro, syntax, notation, axiom, sorry.
-/
import Derived.Test.YtbikeahmldobkaaGreatDoorChecked
import GoSem.PinnedTables
import GoSem.Claim
import GoSem.ClaimJoined
import GoSem.ClaimMapViews
import Derived.JoinedTies
import Derived.KernelRfl
namespace Go.Proofs.YtbikeahmldobkaaGreatDoor
/- THE CELL 'sum', in the pinned program and in every row, IS THE sha256 OF THE DUMP (.gsa) THAT YtbikeahmldobkaaGreatDoorProg.lean LOADS. Nothing in Lean hashes anything: it is a label: what it is worth is what the hold of that sum in a sandbox is worth. -/
noncomputable def Tryz.pinned : Pinned := { name := "ytbikeahmldobkaagreatdoor", sum := "30205c6041f74eff8f47ad6e3f6300bd1c132a3f9d50cc2c8134e842438c9425", checked := Tryz.checked }
namespace Rows
def none {H : Type} : Left H := { results := [], args := [] }

/- WHAT THE LISTED PACKAGE-LEVEL VARIABLES READ AS WHEN THE CALL BEGINS. Each datum BY PROGRAM (the guide's laid-datum.mjs) off the statement by which the dump's own 'gosem.cut.vars' lays the variable. In a bare row this is a premise. The card (YtbikeahmldobkaaGreatDoorCards.lean) ties it to the program's text. -/
def laid_unicode_utf8_acceptRanges {H : Type} : DataW H := .agg [.agg [.lit (.int .u8 128), .lit (.int .u8 191)], .agg [.lit (.int .u8 160), .lit (.int .u8 191)], .agg [.lit (.int .u8 128), .lit (.int .u8 159)], .agg [.lit (.int .u8 144), .lit (.int .u8 191)], .agg [.lit (.int .u8 128), .lit (.int .u8 143)], .agg [.lit (.int .u8 0), .lit (.int .u8 0)], .agg [.lit (.int .u8 0), .lit (.int .u8 0)], .agg [.lit (.int .u8 0), .lit (.int .u8 0)], .agg [.lit (.int .u8 0), .lit (.int .u8 0)], .agg [.lit (.int .u8 0), .lit (.int .u8 0)], .agg [.lit (.int .u8 0), .lit (.int .u8 0)], .agg [.lit (.int .u8 0), .lit (.int .u8 0)], .agg [.lit (.int .u8 0), .lit (.int .u8 0)], .agg [.lit (.int .u8 0), .lit (.int .u8 0)], .agg [.lit (.int .u8 0), .lit (.int .u8 0)], .agg [.lit (.int .u8 0), .lit (.int .u8 0)]]
/-- One of Go's own tables, pinned by name: the form's constant. -/
def laid_unicode_utf8_first : DataW Unit := Go.Pinned.utf8First

/-- 'admissionlaw25.AffectedHits': WHATEVER THE INPUT: true; the input reads as it did. -/
def affectedHitsSpec : ChangeSpec := { name := "affectedHits", fn := fun _ => fun
  | [d1, d2] => { results := [.lit (.bool true)], args := [d1, d2] }
  | _ => none }
def affectedHitsRow : OpenClaim := { program := "ytbikeahmldobkaagreatdoor", sum := "30205c6041f74eff8f47ad6e3f6300bd1c132a3f9d50cc2c8134e842438c9425", func := "admission/admissionlaw25.AffectedHits", spec := "affectedHits", inPlace := ["internal/bytealg.CountString", "internal/bytealg.IndexByteString", "internal/bytealg.IndexString", "internal/bytealg.abigen_runtime_cmpstring", "internal/bytealg.Compare"], unfollowed := true, recurses := true, named := ["unicode/utf8.first", "unicode/utf8.acceptRanges", "internal/bytealg.MaxLen"], plainKeys := false, apart := false, laid := [("unicode/utf8.acceptRanges", laid_unicode_utf8_acceptRanges), ("unicode/utf8.first", laid_unicode_utf8_first)] }
def AffectedHitsSaid : Prop := affectedHitsRow.holds Tryz.pinned (OpenSpec.ofChange affectedHitsSpec)

/-- ITS FALSE NEIGHBOUR: 'it returns false'. Refute it at one input. -/
def affectedHitsWrong : ChangeSpec := { name := "affectedHits", fn := fun _ => fun
  | [d1, d2] => { results := [.lit (.bool false)], args := [d1, d2] }
  | _ => none }
def AffectedHitsWrongFalsely : Prop := affectedHitsRow.holds Tryz.pinned (OpenSpec.ofChange affectedHitsWrong)

/-- 'admissionlaw25.AffectedRaw': WHATEVER THE INPUT: true; the input reads as it did. -/
def affectedRawSpec : ChangeSpec := { name := "affectedRaw", fn := fun _ => fun
  | [d1, d2, d3] => { results := [.lit (.bool true)], args := [d1, d2, d3] }
  | _ => none }
def affectedRawRow : OpenClaim := { program := "ytbikeahmldobkaagreatdoor", sum := "30205c6041f74eff8f47ad6e3f6300bd1c132a3f9d50cc2c8134e842438c9425", func := "admission/admissionlaw25.AffectedRaw", spec := "affectedRaw", inPlace := ["internal/bytealg.IndexByteString", "internal/bytealg.IndexString", "internal/bytealg.Compare", "internal/bytealg.CountString", "internal/bytealg.abigen_runtime_cmpstring"], unfollowed := true, recurses := true, named := ["internal/bytealg.MaxLen", "unicode/utf8.first", "unicode/utf8.acceptRanges"], plainKeys := false, apart := false, laid := [("unicode/utf8.acceptRanges", laid_unicode_utf8_acceptRanges), ("unicode/utf8.first", laid_unicode_utf8_first)] }
def AffectedRawSaid : Prop := affectedRawRow.holds Tryz.pinned (OpenSpec.ofChange affectedRawSpec)

/-- ITS FALSE NEIGHBOUR: 'it returns false'. Refute it at one input. -/
def affectedRawWrong : ChangeSpec := { name := "affectedRaw", fn := fun _ => fun
  | [d1, d2, d3] => { results := [.lit (.bool false)], args := [d1, d2, d3] }
  | _ => none }
def AffectedRawWrongFalsely : Prop := affectedRawRow.holds Tryz.pinned (OpenSpec.ofChange affectedRawWrong)

/-- 'admissionlaw25.AffectedUpgrade': WHATEVER THE INPUT: true; the input reads as it did. -/
def affectedUpgradeSpec : ChangeSpec := { name := "affectedUpgrade", fn := fun _ => fun
  | [d1, d2, d3, d4, d5] => { results := [.lit (.bool true)], args := [d1, d2, d3, d4, d5] }
  | _ => none }
def affectedUpgradeRow : OpenClaim := { program := "ytbikeahmldobkaagreatdoor", sum := "30205c6041f74eff8f47ad6e3f6300bd1c132a3f9d50cc2c8134e842438c9425", func := "admission/admissionlaw25.AffectedUpgrade", spec := "affectedUpgrade", inPlace := ["internal/bytealg.CountString", "internal/bytealg.IndexByteString", "internal/bytealg.IndexString", "internal/bytealg.abigen_runtime_cmpstring", "internal/bytealg.Compare"], unfollowed := true, recurses := true, named := ["unicode/utf8.first", "unicode/utf8.acceptRanges", "internal/bytealg.MaxLen"], plainKeys := false, apart := false, laid := [("unicode/utf8.acceptRanges", laid_unicode_utf8_acceptRanges), ("unicode/utf8.first", laid_unicode_utf8_first)] }
def AffectedUpgradeSaid : Prop := affectedUpgradeRow.holds Tryz.pinned (OpenSpec.ofChange affectedUpgradeSpec)

/-- ITS FALSE NEIGHBOUR: 'it returns false'. Refute it at one input. -/
def affectedUpgradeWrong : ChangeSpec := { name := "affectedUpgrade", fn := fun _ => fun
  | [d1, d2, d3, d4, d5] => { results := [.lit (.bool false)], args := [d1, d2, d3, d4, d5] }
  | _ => none }
def AffectedUpgradeWrongFalsely : Prop := affectedUpgradeRow.holds Tryz.pinned (OpenSpec.ofChange affectedUpgradeWrong)

/-- 'admissionlaw25.AffectedRight': WHATEVER THE INPUT: true; the input reads as it did. -/
def affectedRightSpec : ChangeSpec := { name := "affectedRight", fn := fun _ => fun
  | [d] => { results := [.lit (.bool true)], args := [d] }
  | _ => none }
def affectedRightRow : OpenClaim := { program := "ytbikeahmldobkaagreatdoor", sum := "30205c6041f74eff8f47ad6e3f6300bd1c132a3f9d50cc2c8134e842438c9425", func := "admission/admissionlaw25.AffectedRight", spec := "affectedRight", inPlace := ["internal/bytealg.CountString", "internal/bytealg.IndexByteString", "internal/bytealg.IndexString", "internal/bytealg.abigen_runtime_cmpstring", "internal/bytealg.Compare"], unfollowed := true, recurses := true, named := ["unicode/utf8.first", "unicode/utf8.acceptRanges", "internal/bytealg.MaxLen"], plainKeys := false, apart := false, laid := [("unicode/utf8.acceptRanges", laid_unicode_utf8_acceptRanges), ("unicode/utf8.first", laid_unicode_utf8_first)] }
def AffectedRightSaid : Prop := affectedRightRow.holds Tryz.pinned (OpenSpec.ofChange affectedRightSpec)

/-- ITS FALSE NEIGHBOUR: 'it returns false'. Refute it at one input. -/
def affectedRightWrong : ChangeSpec := { name := "affectedRight", fn := fun _ => fun
  | [d] => { results := [.lit (.bool false)], args := [d] }
  | _ => none }
def AffectedRightWrongFalsely : Prop := affectedRightRow.holds Tryz.pinned (OpenSpec.ofChange affectedRightWrong)

/-- 'admissionlaw25.AffectedReplaced': WHATEVER THE INPUT: true; the input reads as it did. -/
def affectedReplacedSpec : ChangeSpec := { name := "affectedReplaced", fn := fun _ => fun
  | [d1, d2] => { results := [.lit (.bool true)], args := [d1, d2] }
  | _ => none }
def affectedReplacedRow : OpenClaim := { program := "ytbikeahmldobkaagreatdoor", sum := "30205c6041f74eff8f47ad6e3f6300bd1c132a3f9d50cc2c8134e842438c9425", func := "admission/admissionlaw25.AffectedReplaced", spec := "affectedReplaced", inPlace := ["internal/bytealg.CountString", "internal/bytealg.IndexByteString", "internal/bytealg.IndexString", "internal/bytealg.abigen_runtime_cmpstring", "internal/bytealg.Compare"], unfollowed := true, recurses := true, named := ["unicode/utf8.first", "unicode/utf8.acceptRanges", "internal/bytealg.MaxLen"], plainKeys := false, apart := false, laid := [("unicode/utf8.acceptRanges", laid_unicode_utf8_acceptRanges), ("unicode/utf8.first", laid_unicode_utf8_first)] }
def AffectedReplacedSaid : Prop := affectedReplacedRow.holds Tryz.pinned (OpenSpec.ofChange affectedReplacedSpec)

/-- ITS FALSE NEIGHBOUR: 'it returns false'. Refute it at one input. -/
def affectedReplacedWrong : ChangeSpec := { name := "affectedReplaced", fn := fun _ => fun
  | [d1, d2] => { results := [.lit (.bool false)], args := [d1, d2] }
  | _ => none }
def AffectedReplacedWrongFalsely : Prop := affectedReplacedRow.holds Tryz.pinned (OpenSpec.ofChange affectedReplacedWrong)

/-- 'admissionlaw25.AffectedApart': WHATEVER THE INPUT: true; the input reads as it did. -/
def affectedApartSpec : ChangeSpec := { name := "affectedApart", fn := fun _ => fun
  | [d] => { results := [.lit (.bool true)], args := [d] }
  | _ => none }
def affectedApartRow : OpenClaim := { program := "ytbikeahmldobkaagreatdoor", sum := "30205c6041f74eff8f47ad6e3f6300bd1c132a3f9d50cc2c8134e842438c9425", func := "admission/admissionlaw25.AffectedApart", spec := "affectedApart", inPlace := ["internal/bytealg.CountString", "internal/bytealg.IndexByteString", "internal/bytealg.IndexString", "internal/bytealg.abigen_runtime_cmpstring", "internal/bytealg.Compare"], unfollowed := true, recurses := true, named := ["unicode/utf8.first", "unicode/utf8.acceptRanges", "internal/bytealg.MaxLen"], plainKeys := false, apart := false, laid := [("unicode/utf8.acceptRanges", laid_unicode_utf8_acceptRanges), ("unicode/utf8.first", laid_unicode_utf8_first)] }
def AffectedApartSaid : Prop := affectedApartRow.holds Tryz.pinned (OpenSpec.ofChange affectedApartSpec)

/-- ITS FALSE NEIGHBOUR: 'it returns false'. Refute it at one input. -/
def affectedApartWrong : ChangeSpec := { name := "affectedApart", fn := fun _ => fun
  | [d] => { results := [.lit (.bool false)], args := [d] }
  | _ => none }
def AffectedApartWrongFalsely : Prop := affectedApartRow.holds Tryz.pinned (OpenSpec.ofChange affectedApartWrong)

/-- 'admissionlaw25.AffectedOthers': WHATEVER THE INPUT: true; the input reads as it did. -/
def affectedOthersSpec : ChangeSpec := { name := "affectedOthers", fn := fun _ => fun
  | [d] => { results := [.lit (.bool true)], args := [d] }
  | _ => none }
def affectedOthersRow : OpenClaim := { program := "ytbikeahmldobkaagreatdoor", sum := "30205c6041f74eff8f47ad6e3f6300bd1c132a3f9d50cc2c8134e842438c9425", func := "admission/admissionlaw25.AffectedOthers", spec := "affectedOthers", inPlace := ["internal/bytealg.CountString", "internal/bytealg.IndexByteString", "internal/bytealg.IndexString", "internal/bytealg.abigen_runtime_cmpstring", "internal/bytealg.Compare"], unfollowed := true, recurses := true, named := ["unicode/utf8.first", "unicode/utf8.acceptRanges", "internal/bytealg.MaxLen"], plainKeys := false, apart := false, laid := [("unicode/utf8.acceptRanges", laid_unicode_utf8_acceptRanges), ("unicode/utf8.first", laid_unicode_utf8_first)] }
def AffectedOthersSaid : Prop := affectedOthersRow.holds Tryz.pinned (OpenSpec.ofChange affectedOthersSpec)

/-- ITS FALSE NEIGHBOUR: 'it returns false'. Refute it at one input. -/
def affectedOthersWrong : ChangeSpec := { name := "affectedOthers", fn := fun _ => fun
  | [d] => { results := [.lit (.bool false)], args := [d] }
  | _ => none }
def AffectedOthersWrongFalsely : Prop := affectedOthersRow.holds Tryz.pinned (OpenSpec.ofChange affectedOthersWrong)

/-- 'admissionlaw25.AffectedUnder': WHATEVER THE INPUT: true; the input reads as it did. -/
def affectedUnderSpec : ChangeSpec := { name := "affectedUnder", fn := fun _ => fun
  | [d] => { results := [.lit (.bool true)], args := [d] }
  | _ => none }
def affectedUnderRow : OpenClaim := { program := "ytbikeahmldobkaagreatdoor", sum := "30205c6041f74eff8f47ad6e3f6300bd1c132a3f9d50cc2c8134e842438c9425", func := "admission/admissionlaw25.AffectedUnder", spec := "affectedUnder", inPlace := ["internal/bytealg.CountString", "internal/bytealg.IndexByteString", "internal/bytealg.IndexString", "internal/bytealg.abigen_runtime_cmpstring", "internal/bytealg.Compare"], unfollowed := true, recurses := true, named := ["unicode/utf8.first", "unicode/utf8.acceptRanges", "internal/bytealg.MaxLen"], plainKeys := false, apart := false, laid := [("unicode/utf8.acceptRanges", laid_unicode_utf8_acceptRanges), ("unicode/utf8.first", laid_unicode_utf8_first)] }
def AffectedUnderSaid : Prop := affectedUnderRow.holds Tryz.pinned (OpenSpec.ofChange affectedUnderSpec)

/-- ITS FALSE NEIGHBOUR: 'it returns false'. Refute it at one input. -/
def affectedUnderWrong : ChangeSpec := { name := "affectedUnder", fn := fun _ => fun
  | [d] => { results := [.lit (.bool false)], args := [d] }
  | _ => none }
def AffectedUnderWrongFalsely : Prop := affectedUnderRow.holds Tryz.pinned (OpenSpec.ofChange affectedUnderWrong)

/-- 'admissionlaw25.AffectedOrder': WHATEVER THE INPUT: true; the input reads as it did. -/
def affectedOrderSpec : ChangeSpec := { name := "affectedOrder", fn := fun _ => fun
  | [d1, d2] => { results := [.lit (.bool true)], args := [d1, d2] }
  | _ => none }
def affectedOrderRow : OpenClaim := { program := "ytbikeahmldobkaagreatdoor", sum := "30205c6041f74eff8f47ad6e3f6300bd1c132a3f9d50cc2c8134e842438c9425", func := "admission/admissionlaw25.AffectedOrder", spec := "affectedOrder", inPlace := ["internal/bytealg.CountString", "internal/bytealg.IndexByteString", "internal/bytealg.IndexString", "internal/bytealg.abigen_runtime_cmpstring", "internal/bytealg.Compare"], unfollowed := true, recurses := true, named := ["unicode/utf8.first", "unicode/utf8.acceptRanges", "internal/bytealg.MaxLen"], plainKeys := false, apart := false, laid := [("unicode/utf8.acceptRanges", laid_unicode_utf8_acceptRanges), ("unicode/utf8.first", laid_unicode_utf8_first)] }
def AffectedOrderSaid : Prop := affectedOrderRow.holds Tryz.pinned (OpenSpec.ofChange affectedOrderSpec)

/-- ITS FALSE NEIGHBOUR: 'it returns false'. Refute it at one input. -/
def affectedOrderWrong : ChangeSpec := { name := "affectedOrder", fn := fun _ => fun
  | [d1, d2] => { results := [.lit (.bool false)], args := [d1, d2] }
  | _ => none }
def AffectedOrderWrongFalsely : Prop := affectedOrderRow.holds Tryz.pinned (OpenSpec.ofChange affectedOrderWrong)

/- THE SECOND FORM. 'bulk': how many values and letters a reading holds, each counted each time it is reached (what is shared counts as often as it is met; a slice's spare places count too). A statement '..UptoSaid' is the law's where the arguments, and the package variables that the reading takes, are together of bulk at most 1048576: NARROWER than '..Said'. Prove '..Said' where nothing that the law and all that it calls make is longer than what came in: it says more and counts as full. Else prove '..UptoSaid'. A law counts once. -/
mutual
def uptoBulk {H : Type} : DataW H → Nat
  | .lit (.string bytes) => bytes.length + 1
  | .lit _ => 1
  | .nil => 1
  | .ptr d => uptoBulk d + 1
  | .slice elems spare => uptoBulkAll elems + uptoBulkAll spare + 1
  | .agg parts => uptoBulkAll parts + 1
  | .iface _ d => uptoBulk d + 1
  | .map entries => uptoBulkEntries entries + 1
  | .held _ => 1
def uptoBulkAll {H : Type} : List (DataW H) → Nat
  | [] => 0
  | d :: r => uptoBulk d + uptoBulkAll r
def uptoBulkEntries {H : Type} : List (Lit × DataW H) → Nat
  | [] => 0
  | x :: r => uptoBulkEntry x + uptoBulkEntries r
def uptoBulkEntry {H : Type} : Lit × DataW H → Nat
  | (.string bytes, d) => bytes.length + uptoBulk d + 1
  | (_, d) => uptoBulk d + 1
 end
def uptoSmall : (H : Type) → List (DataW H) → Bool := fun _ ds => decide (uptoBulkAll ds ≤ 1048576)
def OpenSpec.upto (s : _root_.Go.ChangeSpec) : _root_.Go.OpenSpec := { _root_.Go.OpenSpec.ofChange s with cond := some uptoSmall }

/-- 'admissionlaw25.AffectedHits', WHERE WHAT IT READS IS OF BULK AT MOST 1048576: true; the input reads as it did. -/
def affectedHitsUptoRow : OpenClaim := { program := "ytbikeahmldobkaagreatdoor", sum := "30205c6041f74eff8f47ad6e3f6300bd1c132a3f9d50cc2c8134e842438c9425", func := "admission/admissionlaw25.AffectedHits", spec := "affectedHits", inPlace := ["internal/bytealg.CountString", "internal/bytealg.IndexByteString", "internal/bytealg.IndexString", "internal/bytealg.abigen_runtime_cmpstring", "internal/bytealg.Compare"], unfollowed := true, recurses := true, named := ["unicode/utf8.first", "unicode/utf8.acceptRanges", "internal/bytealg.MaxLen"], plainKeys := false, apart := false, laid := [("unicode/utf8.acceptRanges", laid_unicode_utf8_acceptRanges), ("unicode/utf8.first", laid_unicode_utf8_first)], narrowed := true }
def AffectedHitsUptoSaid : Prop := affectedHitsUptoRow.holds Tryz.pinned (OpenSpec.upto affectedHitsSpec)

/-- 'admissionlaw25.AffectedRaw', WHERE WHAT IT READS IS OF BULK AT MOST 1048576: true; the input reads as it did. -/
def affectedRawUptoRow : OpenClaim := { program := "ytbikeahmldobkaagreatdoor", sum := "30205c6041f74eff8f47ad6e3f6300bd1c132a3f9d50cc2c8134e842438c9425", func := "admission/admissionlaw25.AffectedRaw", spec := "affectedRaw", inPlace := ["internal/bytealg.IndexByteString", "internal/bytealg.IndexString", "internal/bytealg.Compare", "internal/bytealg.CountString", "internal/bytealg.abigen_runtime_cmpstring"], unfollowed := true, recurses := true, named := ["internal/bytealg.MaxLen", "unicode/utf8.first", "unicode/utf8.acceptRanges"], plainKeys := false, apart := false, laid := [("unicode/utf8.acceptRanges", laid_unicode_utf8_acceptRanges), ("unicode/utf8.first", laid_unicode_utf8_first)], narrowed := true }
def AffectedRawUptoSaid : Prop := affectedRawUptoRow.holds Tryz.pinned (OpenSpec.upto affectedRawSpec)

/-- 'admissionlaw25.AffectedUpgrade', WHERE WHAT IT READS IS OF BULK AT MOST 1048576: true; the input reads as it did. -/
def affectedUpgradeUptoRow : OpenClaim := { program := "ytbikeahmldobkaagreatdoor", sum := "30205c6041f74eff8f47ad6e3f6300bd1c132a3f9d50cc2c8134e842438c9425", func := "admission/admissionlaw25.AffectedUpgrade", spec := "affectedUpgrade", inPlace := ["internal/bytealg.CountString", "internal/bytealg.IndexByteString", "internal/bytealg.IndexString", "internal/bytealg.abigen_runtime_cmpstring", "internal/bytealg.Compare"], unfollowed := true, recurses := true, named := ["unicode/utf8.first", "unicode/utf8.acceptRanges", "internal/bytealg.MaxLen"], plainKeys := false, apart := false, laid := [("unicode/utf8.acceptRanges", laid_unicode_utf8_acceptRanges), ("unicode/utf8.first", laid_unicode_utf8_first)], narrowed := true }
def AffectedUpgradeUptoSaid : Prop := affectedUpgradeUptoRow.holds Tryz.pinned (OpenSpec.upto affectedUpgradeSpec)

/-- 'admissionlaw25.AffectedRight', WHERE WHAT IT READS IS OF BULK AT MOST 1048576: true; the input reads as it did. -/
def affectedRightUptoRow : OpenClaim := { program := "ytbikeahmldobkaagreatdoor", sum := "30205c6041f74eff8f47ad6e3f6300bd1c132a3f9d50cc2c8134e842438c9425", func := "admission/admissionlaw25.AffectedRight", spec := "affectedRight", inPlace := ["internal/bytealg.CountString", "internal/bytealg.IndexByteString", "internal/bytealg.IndexString", "internal/bytealg.abigen_runtime_cmpstring", "internal/bytealg.Compare"], unfollowed := true, recurses := true, named := ["unicode/utf8.first", "unicode/utf8.acceptRanges", "internal/bytealg.MaxLen"], plainKeys := false, apart := false, laid := [("unicode/utf8.acceptRanges", laid_unicode_utf8_acceptRanges), ("unicode/utf8.first", laid_unicode_utf8_first)], narrowed := true }
def AffectedRightUptoSaid : Prop := affectedRightUptoRow.holds Tryz.pinned (OpenSpec.upto affectedRightSpec)

/-- 'admissionlaw25.AffectedReplaced', WHERE WHAT IT READS IS OF BULK AT MOST 1048576: true; the input reads as it did. -/
def affectedReplacedUptoRow : OpenClaim := { program := "ytbikeahmldobkaagreatdoor", sum := "30205c6041f74eff8f47ad6e3f6300bd1c132a3f9d50cc2c8134e842438c9425", func := "admission/admissionlaw25.AffectedReplaced", spec := "affectedReplaced", inPlace := ["internal/bytealg.CountString", "internal/bytealg.IndexByteString", "internal/bytealg.IndexString", "internal/bytealg.abigen_runtime_cmpstring", "internal/bytealg.Compare"], unfollowed := true, recurses := true, named := ["unicode/utf8.first", "unicode/utf8.acceptRanges", "internal/bytealg.MaxLen"], plainKeys := false, apart := false, laid := [("unicode/utf8.acceptRanges", laid_unicode_utf8_acceptRanges), ("unicode/utf8.first", laid_unicode_utf8_first)], narrowed := true }
def AffectedReplacedUptoSaid : Prop := affectedReplacedUptoRow.holds Tryz.pinned (OpenSpec.upto affectedReplacedSpec)

/-- 'admissionlaw25.AffectedApart', WHERE WHAT IT READS IS OF BULK AT MOST 1048576: true; the input reads as it did. -/
def affectedApartUptoRow : OpenClaim := { program := "ytbikeahmldobkaagreatdoor", sum := "30205c6041f74eff8f47ad6e3f6300bd1c132a3f9d50cc2c8134e842438c9425", func := "admission/admissionlaw25.AffectedApart", spec := "affectedApart", inPlace := ["internal/bytealg.CountString", "internal/bytealg.IndexByteString", "internal/bytealg.IndexString", "internal/bytealg.abigen_runtime_cmpstring", "internal/bytealg.Compare"], unfollowed := true, recurses := true, named := ["unicode/utf8.first", "unicode/utf8.acceptRanges", "internal/bytealg.MaxLen"], plainKeys := false, apart := false, laid := [("unicode/utf8.acceptRanges", laid_unicode_utf8_acceptRanges), ("unicode/utf8.first", laid_unicode_utf8_first)], narrowed := true }
def AffectedApartUptoSaid : Prop := affectedApartUptoRow.holds Tryz.pinned (OpenSpec.upto affectedApartSpec)

/-- 'admissionlaw25.AffectedOthers', WHERE WHAT IT READS IS OF BULK AT MOST 1048576: true; the input reads as it did. -/
def affectedOthersUptoRow : OpenClaim := { program := "ytbikeahmldobkaagreatdoor", sum := "30205c6041f74eff8f47ad6e3f6300bd1c132a3f9d50cc2c8134e842438c9425", func := "admission/admissionlaw25.AffectedOthers", spec := "affectedOthers", inPlace := ["internal/bytealg.CountString", "internal/bytealg.IndexByteString", "internal/bytealg.IndexString", "internal/bytealg.abigen_runtime_cmpstring", "internal/bytealg.Compare"], unfollowed := true, recurses := true, named := ["unicode/utf8.first", "unicode/utf8.acceptRanges", "internal/bytealg.MaxLen"], plainKeys := false, apart := false, laid := [("unicode/utf8.acceptRanges", laid_unicode_utf8_acceptRanges), ("unicode/utf8.first", laid_unicode_utf8_first)], narrowed := true }
def AffectedOthersUptoSaid : Prop := affectedOthersUptoRow.holds Tryz.pinned (OpenSpec.upto affectedOthersSpec)

/-- 'admissionlaw25.AffectedUnder', WHERE WHAT IT READS IS OF BULK AT MOST 1048576: true; the input reads as it did. -/
def affectedUnderUptoRow : OpenClaim := { program := "ytbikeahmldobkaagreatdoor", sum := "30205c6041f74eff8f47ad6e3f6300bd1c132a3f9d50cc2c8134e842438c9425", func := "admission/admissionlaw25.AffectedUnder", spec := "affectedUnder", inPlace := ["internal/bytealg.CountString", "internal/bytealg.IndexByteString", "internal/bytealg.IndexString", "internal/bytealg.abigen_runtime_cmpstring", "internal/bytealg.Compare"], unfollowed := true, recurses := true, named := ["unicode/utf8.first", "unicode/utf8.acceptRanges", "internal/bytealg.MaxLen"], plainKeys := false, apart := false, laid := [("unicode/utf8.acceptRanges", laid_unicode_utf8_acceptRanges), ("unicode/utf8.first", laid_unicode_utf8_first)], narrowed := true }
def AffectedUnderUptoSaid : Prop := affectedUnderUptoRow.holds Tryz.pinned (OpenSpec.upto affectedUnderSpec)

/-- 'admissionlaw25.AffectedOrder', WHERE WHAT IT READS IS OF BULK AT MOST 1048576: true; the input reads as it did. -/
def affectedOrderUptoRow : OpenClaim := { program := "ytbikeahmldobkaagreatdoor", sum := "30205c6041f74eff8f47ad6e3f6300bd1c132a3f9d50cc2c8134e842438c9425", func := "admission/admissionlaw25.AffectedOrder", spec := "affectedOrder", inPlace := ["internal/bytealg.CountString", "internal/bytealg.IndexByteString", "internal/bytealg.IndexString", "internal/bytealg.abigen_runtime_cmpstring", "internal/bytealg.Compare"], unfollowed := true, recurses := true, named := ["unicode/utf8.first", "unicode/utf8.acceptRanges", "internal/bytealg.MaxLen"], plainKeys := false, apart := false, laid := [("unicode/utf8.acceptRanges", laid_unicode_utf8_acceptRanges), ("unicode/utf8.first", laid_unicode_utf8_first)], narrowed := true }
def AffectedOrderUptoSaid : Prop := affectedOrderUptoRow.holds Tryz.pinned (OpenSpec.upto affectedOrderSpec)

end Rows
end Go.Proofs.YtbikeahmldobkaaGreatDoor

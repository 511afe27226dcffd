/-
  No cell of these rows narrows 'for every input' (looked for: loops, veiled, ifaces, maps, wideKeys, modest, calm, conditions, laid).
  DERIVED. THE GIVEN ROWS OF THIS SEAT. 3 by the template 'for every input the law returns true; each argument reads behind the call as it read before'; 0 by the template 'total and deterministic' (their statements: YtoiabbhppbghdaaTotals.lean).
  GIVEN WITH THE SEED: the statements are not yours to turn. If you find one false, say at which input.
  Laid BY PROGRAM, IN A SANDBOX (cutbox-rows.mjs): the forced cells as the released guide's own fill.sh prints them over the translation 80b26f1e391f715e… (all of the seat's roots in one cut). By AI agents, Wed Nov 11 2026. No macro, syntax, notation, axiom, sorry.
-/
import Derived.Test.YtoiabbhppbghdaaChecked
import GoSem.Claim
import GoSem.ClaimJoined
import GoSem.ClaimMapViews
import Derived.JoinedTies
import Derived.KernelRfl
namespace Go.Proofs.Ytoiabbhppbghdaa
/- THE CELL 'sum', in the pinned program and in every row, IS THE sha256 OF THE DUMP (.gsa) THAT YtoiabbhppbghdaaProg.lean LOADS. Nothing in Lean hashes anything: it is a label: what it is worth is what the hold of that sum in a sandbox is worth. -/
noncomputable def Try.pinned : Pinned := { name := "ytoiabbhppbghdaa", sum := "80b26f1e391f715ee683ec719ab350c63f9b87b2e0f10ef2dcfe2df5bf4f225b", checked := Try.checked }
namespace Rows
def none {H : Type} : Left H := { results := [], args := [] }

/-- 'admissionlaw27.FindingLess': WHATEVER THE INPUT: true; the input reads as it did. -/
def findingLessSpec : ChangeSpec := { name := "findingLess", fn := fun _ => fun
  | [d1, d2, d3] => { results := [.lit (.bool true)], args := [d1, d2, d3] }
  | _ => none }
def findingLessRow : OpenClaim := { program := "ytoiabbhppbghdaa", sum := "80b26f1e391f715ee683ec719ab350c63f9b87b2e0f10ef2dcfe2df5bf4f225b", func := "admission/admissionlaw27.FindingLess", spec := "findingLess", unfollowed := true, recurses := true, plainKeys := false, apart := false }
def FindingLessSaid : Prop := findingLessRow.holds Try.pinned (OpenSpec.ofChange findingLessSpec)

/-- ITS FALSE NEIGHBOUR: 'it returns false'. Refute it at one input. -/
def findingLessWrong : ChangeSpec := { name := "findingLess", fn := fun _ => fun
  | [d1, d2, d3] => { results := [.lit (.bool false)], args := [d1, d2, d3] }
  | _ => none }
def FindingLessWrongFalsely : Prop := findingLessRow.holds Try.pinned (OpenSpec.ofChange findingLessWrong)

/-- 'admissionlaw19.InventoryNested': WHATEVER THE INPUT: true; the input reads as it did. -/
def inventoryNestedSpec : ChangeSpec := { name := "inventoryNested", fn := fun _ => fun
  | [d] => { results := [.lit (.bool true)], args := [d] }
  | _ => none }
def inventoryNestedRow : OpenClaim := { program := "ytoiabbhppbghdaa", sum := "80b26f1e391f715ee683ec719ab350c63f9b87b2e0f10ef2dcfe2df5bf4f225b", func := "admission/admissionlaw19.InventoryNested", spec := "inventoryNested", inPlace := ["internal/bytealg.IndexByteString", "internal/bytealg.IndexString"], unfollowed := true, recurses := true, named := ["internal/bytealg.MaxLen"], plainKeys := false, apart := false }
def InventoryNestedSaid : Prop := inventoryNestedRow.holds Try.pinned (OpenSpec.ofChange inventoryNestedSpec)

/-- ITS FALSE NEIGHBOUR: 'it returns false'. Refute it at one input. -/
def inventoryNestedWrong : ChangeSpec := { name := "inventoryNested", fn := fun _ => fun
  | [d] => { results := [.lit (.bool false)], args := [d] }
  | _ => none }
def InventoryNestedWrongFalsely : Prop := inventoryNestedRow.holds Try.pinned (OpenSpec.ofChange inventoryNestedWrong)

/-- 'admissionlaw19.InventoryMergeLaws': WHATEVER THE INPUT: true; the input reads as it did. -/
def inventoryMergeLawsSpec : ChangeSpec := { name := "inventoryMergeLaws", fn := fun _ => fun
  | [d] => { results := [.lit (.bool true)], args := [d] }
  | _ => none }
def inventoryMergeLawsRow : OpenClaim := { program := "ytoiabbhppbghdaa", sum := "80b26f1e391f715ee683ec719ab350c63f9b87b2e0f10ef2dcfe2df5bf4f225b", func := "admission/admissionlaw19.InventoryMergeLaws", spec := "inventoryMergeLaws", inPlace := ["internal/bytealg.IndexByteString", "internal/bytealg.IndexString"], unfollowed := true, recurses := true, named := ["internal/bytealg.MaxLen"], plainKeys := false, apart := false }
def InventoryMergeLawsSaid : Prop := inventoryMergeLawsRow.holds Try.pinned (OpenSpec.ofChange inventoryMergeLawsSpec)

/-- ITS FALSE NEIGHBOUR: 'it returns false'. Refute it at one input. -/
def inventoryMergeLawsWrong : ChangeSpec := { name := "inventoryMergeLaws", fn := fun _ => fun
  | [d] => { results := [.lit (.bool false)], args := [d] }
  | _ => none }
def InventoryMergeLawsWrongFalsely : Prop := inventoryMergeLawsRow.holds Try.pinned (OpenSpec.ofChange inventoryMergeLawsWrong)

/- THE SECOND FORM. 'bulk': how many values and letters a reading holds, each counted each time it is reached (what is shared counts as often as it is met; a slice's spare places count too). A statement '..UptoSaid' is the law's where the arguments, and the package variables that the reading takes, are together of bulk at most 1048576: NARROWER than '..Said'. Prove '..Said' where nothing that the law and all that it calls make is longer than what came in: it says more and counts as full. Else prove '..UptoSaid'. A law counts once. -/
mutual
def uptoBulk {H : Type} : DataW H → Nat
  | .lit (.string bytes) => bytes.length + 1
  | .lit _ => 1
  | .nil => 1
  | .ptr d => uptoBulk d + 1
  | .slice elems spare => uptoBulkAll elems + uptoBulkAll spare + 1
  | .agg parts => uptoBulkAll parts + 1
  | .iface _ d => uptoBulk d + 1
  | .map entries => uptoBulkEntries entries + 1
  | .held _ => 1
def uptoBulkAll {H : Type} : List (DataW H) → Nat
  | [] => 0
  | d :: r => uptoBulk d + uptoBulkAll r
def uptoBulkEntries {H : Type} : List (Lit × DataW H) → Nat
  | [] => 0
  | x :: r => uptoBulkEntry x + uptoBulkEntries r
def uptoBulkEntry {H : Type} : Lit × DataW H → Nat
  | (.string bytes, d) => bytes.length + uptoBulk d + 1
  | (_, d) => uptoBulk d + 1
 end
def uptoSmall : (H : Type) → List (DataW H) → Bool := fun _ ds => decide (uptoBulkAll ds ≤ 1048576)
def OpenSpec.upto (s : _root_.Go.ChangeSpec) : _root_.Go.OpenSpec := { _root_.Go.OpenSpec.ofChange s with cond := some uptoSmall }

/-- 'admissionlaw27.FindingLess', WHERE WHAT IT READS IS OF BULK AT MOST 1048576: true; the input reads as it did. -/
def findingLessUptoRow : OpenClaim := { program := "ytoiabbhppbghdaa", sum := "80b26f1e391f715ee683ec719ab350c63f9b87b2e0f10ef2dcfe2df5bf4f225b", func := "admission/admissionlaw27.FindingLess", spec := "findingLess", unfollowed := true, recurses := true, plainKeys := false, apart := false, narrowed := true }
def FindingLessUptoSaid : Prop := findingLessUptoRow.holds Try.pinned (OpenSpec.upto findingLessSpec)

/-- 'admissionlaw19.InventoryNested', WHERE WHAT IT READS IS OF BULK AT MOST 1048576: true; the input reads as it did. -/
def inventoryNestedUptoRow : OpenClaim := { program := "ytoiabbhppbghdaa", sum := "80b26f1e391f715ee683ec719ab350c63f9b87b2e0f10ef2dcfe2df5bf4f225b", func := "admission/admissionlaw19.InventoryNested", spec := "inventoryNested", inPlace := ["internal/bytealg.IndexByteString", "internal/bytealg.IndexString"], unfollowed := true, recurses := true, named := ["internal/bytealg.MaxLen"], plainKeys := false, apart := false, narrowed := true }
def InventoryNestedUptoSaid : Prop := inventoryNestedUptoRow.holds Try.pinned (OpenSpec.upto inventoryNestedSpec)

/-- 'admissionlaw19.InventoryMergeLaws', WHERE WHAT IT READS IS OF BULK AT MOST 1048576: true; the input reads as it did. -/
def inventoryMergeLawsUptoRow : OpenClaim := { program := "ytoiabbhppbghdaa", sum := "80b26f1e391f715ee683ec719ab350c63f9b87b2e0f10ef2dcfe2df5bf4f225b", func := "admission/admissionlaw19.InventoryMergeLaws", spec := "inventoryMergeLaws", inPlace := ["internal/bytealg.IndexByteString", "internal/bytealg.IndexString"], unfollowed := true, recurses := true, named := ["internal/bytealg.MaxLen"], plainKeys := false, apart := false, narrowed := true }
def InventoryMergeLawsUptoSaid : Prop := inventoryMergeLawsUptoRow.holds Try.pinned (OpenSpec.upto inventoryMergeLawsSpec)

end Rows
end Go.Proofs.Ytoiabbhppbghdaa

/-
  Lemmas for the law.
-/
import Derived.Test.YtnhfaincdabdkaaGreatDoorC32x43
set_option linter.all false
set_option maxRecDepth 100000
namespace Go.Proofs.YtnhfaincdabdkaaGreatDoor.advisoryForm
open Go.RowKit
theorem fact_inPlace : (Rows.advisoryFormRow.inPlace == Tryz.prog.inPlace 12) = true := by kernel_rfl
theorem fact_unfollowed : (Rows.advisoryFormRow.unfollowed == Tryz.prog.unfollowed 12) = true := by kernel_rfl
theorem fact_recurses : (Rows.advisoryFormRow.recurses == Tryz.prog.recurses 12) = true := by kernel_rfl
theorem fact_named : (Rows.advisoryFormRow.named == Tryz.prog.varsNamed 12) = true := by kernel_rfl
theorem closed : joinedFacts Tryz.prog 12 Tryz.f12 (OpenSpec.ofChange Rows.advisoryFormSpec).bare Rows.advisoryFormRow = true := by
 unfold joinedFacts
 simp only [zgf, zgx, fact_inPlace, fact_unfollowed, fact_recurses, fact_named, Bool.and_true]
 kernel_rfl
end Go.Proofs.YtnhfaincdabdkaaGreatDoor.advisoryForm

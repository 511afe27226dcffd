/-
  Lemmas for the law.
-/
import Derived.Test.YtnhfaincdabdkaaGreatDoorC32x43
set_option linter.all false
set_option maxRecDepth 100000
namespace Go.Proofs.YtnhfaincdabdkaaGreatDoor.advisoryNone
open Go.RowKit
theorem fact_inPlace : (Rows.advisoryNoneRow.inPlace == Tryz.prog.inPlace 13) = true := by kernel_rfl
theorem fact_unfollowed : (Rows.advisoryNoneRow.unfollowed == Tryz.prog.unfollowed 13) = true := by kernel_rfl
theorem fact_recurses : (Rows.advisoryNoneRow.recurses == Tryz.prog.recurses 13) = true := by kernel_rfl
theorem fact_named : (Rows.advisoryNoneRow.named == Tryz.prog.varsNamed 13) = true := by kernel_rfl
theorem closed : joinedFacts Tryz.prog 13 Tryz.f13 (OpenSpec.ofChange Rows.advisoryNoneSpec).bare Rows.advisoryNoneRow = true := by
 unfold joinedFacts
 simp only [zgf, zgx, fact_inPlace, fact_unfollowed, fact_recurses, fact_named, Bool.and_true]
 kernel_rfl
end Go.Proofs.YtnhfaincdabdkaaGreatDoor.advisoryNone

/-
  Lemmas for the law.
-/
import Derived.Test.YtnhfaincdabdkaaGreatDoorC32x43
set_option linter.all false
set_option maxRecDepth 100000
namespace Go.Proofs.YtnhfaincdabdkaaGreatDoor.advisoryRound
open Go.RowKit
theorem fact_inPlace : (Rows.advisoryRoundRow.inPlace == Tryz.prog.inPlace 5) = true := by kernel_rfl
theorem fact_unfollowed : (Rows.advisoryRoundRow.unfollowed == Tryz.prog.unfollowed 5) = true := by kernel_rfl
theorem fact_recurses : (Rows.advisoryRoundRow.recurses == Tryz.prog.recurses 5) = true := by kernel_rfl
theorem fact_named : (Rows.advisoryRoundRow.named == Tryz.prog.varsNamed 5) = true := by kernel_rfl
theorem closed : joinedFacts Tryz.prog 5 Tryz.f5 (OpenSpec.ofChange Rows.advisoryRoundSpec).bare Rows.advisoryRoundRow = true := by
 unfold joinedFacts
 simp only [zgf, zgx, fact_inPlace, fact_unfollowed, fact_recurses, fact_named, Bool.and_true]
 kernel_rfl
end Go.Proofs.YtnhfaincdabdkaaGreatDoor.advisoryRound

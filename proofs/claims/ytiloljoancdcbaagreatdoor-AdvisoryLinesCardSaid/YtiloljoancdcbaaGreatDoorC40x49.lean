/-
  Lemmas for the law.
-/
import Derived.Test.YtiloljoancdcbaaGreatDoorC40x48
set_option linter.all false
set_option maxRecDepth 100000
namespace Go.Proofs.YtiloljoancdcbaaGreatDoor.advisoryLines
open Go.RowKit
theorem zov : (Rows.advisoryLinesRow.inPlace == Tryz.prog.inPlace 5) = true := by kernel_rfl
theorem ziu : (Rows.advisoryLinesRow.unfollowed == Tryz.prog.unfollowed 5) = true := by kernel_rfl
theorem zmf : (Rows.advisoryLinesRow.recurses == Tryz.prog.recurses 5) = true := by kernel_rfl
theorem zsv : (Rows.advisoryLinesRow.named == Tryz.prog.varsNamed 5) = true := by kernel_rfl
theorem closed : joinedFacts Tryz.prog 5 Tryz.f5 (OpenSpec.ofChange Rows.advisoryLinesSpec).bare Rows.advisoryLinesRow = true := by
 unfold joinedFacts
 simp only [zuq, zva, zov, ziu, zmf, zsv, Bool.and_true]
 kernel_rfl
end Go.Proofs.YtiloljoancdcbaaGreatDoor.advisoryLines

/-
  Lemmas for the law.
-/
import Derived.Test.YtnhfaincdabdkaaGreatDoorC36x48
set_option linter.all false
set_option maxRecDepth 100000
namespace Go.Proofs.YtnhfaincdabdkaaGreatDoor.advisoryUnique
open Go.RowKit
theorem znp : (Rows.advisoryUniqueRow.inPlace == Tryz.prog.inPlace 10) = true := by kernel_rfl
theorem zhn : (Rows.advisoryUniqueRow.unfollowed == Tryz.prog.unfollowed 10) = true := by kernel_rfl
theorem zlc : (Rows.advisoryUniqueRow.recurses == Tryz.prog.recurses 10) = true := by kernel_rfl
theorem zrz : (Rows.advisoryUniqueRow.named == Tryz.prog.varsNamed 10) = true := by kernel_rfl
theorem closed : joinedFacts Tryz.prog 10 Tryz.f10 (OpenSpec.ofChange Rows.advisoryUniqueSpec).bare Rows.advisoryUniqueRow = true := by
 unfold joinedFacts
 simp only [zts, zuj, znp, zhn, zlc, zrz, Bool.and_true]
 kernel_rfl
end Go.Proofs.YtnhfaincdabdkaaGreatDoor.advisoryUnique

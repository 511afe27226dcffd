/-
  Lemmas for the law.
-/
import Derived.Test.YtnhfaincdabdkaaGreatDoorC37x48
set_option linter.all false
set_option maxRecDepth 100000
namespace Go.Proofs.YtnhfaincdabdkaaGreatDoor.advisoryValid
open Go.RowKit
theorem zls : (Rows.advisoryValidRow.inPlace == Tryz.prog.inPlace 11) = true := by kernel_rfl
theorem zga : (Rows.advisoryValidRow.unfollowed == Tryz.prog.unfollowed 11) = true := by kernel_rfl
theorem zjb : (Rows.advisoryValidRow.recurses == Tryz.prog.recurses 11) = true := by kernel_rfl
theorem zqa : (Rows.advisoryValidRow.named == Tryz.prog.varsNamed 11) = true := by kernel_rfl
theorem closed : joinedFacts Tryz.prog 11 Tryz.f11 (OpenSpec.ofChange Rows.advisoryValidSpec).bare Rows.advisoryValidRow = true := by
 unfold joinedFacts
 simp only [zr3, zst, zls, zga, zjb, zqa, Bool.and_true]
 kernel_rfl
end Go.Proofs.YtnhfaincdabdkaaGreatDoor.advisoryValid

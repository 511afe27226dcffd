/-
  Lemmas for the law.
-/
import Derived.Test.YtnhfaincdabdkaaGreatDoorC35x48
set_option linter.all false
set_option maxRecDepth 100000
namespace Go.Proofs.YtnhfaincdabdkaaGreatDoor.advisoryCovers
open Go.RowKit
theorem zn2 : (Rows.advisoryCoversRow.inPlace == Tryz.prog.inPlace 9) = true := by kernel_rfl
theorem zh2 : (Rows.advisoryCoversRow.unfollowed == Tryz.prog.unfollowed 9) = true := by kernel_rfl
theorem zlo : (Rows.advisoryCoversRow.recurses == Tryz.prog.recurses 9) = true := by kernel_rfl
theorem zse : (Rows.advisoryCoversRow.named == Tryz.prog.varsNamed 9) = true := by kernel_rfl
theorem closed : joinedFacts Tryz.prog 9 Tryz.f9 (OpenSpec.ofChange Rows.advisoryCoversSpec).bare Rows.advisoryCoversRow = true := by
 unfold joinedFacts
 simp only [zt5, zuv, zn2, zh2, zlo, zse, Bool.and_true]
 kernel_rfl
end Go.Proofs.YtnhfaincdabdkaaGreatDoor.advisoryCovers

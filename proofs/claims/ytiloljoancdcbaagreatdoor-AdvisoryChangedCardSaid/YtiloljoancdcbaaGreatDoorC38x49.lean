/-
  Lemmas for the law.
-/
import Derived.Test.YtiloljoancdcbaaGreatDoorC38x48
set_option linter.all false
set_option maxRecDepth 100000
namespace Go.Proofs.YtiloljoancdcbaaGreatDoor.advisoryChanged
open Go.RowKit
theorem zoi : (Rows.advisoryChangedRow.inPlace == Tryz.prog.inPlace 3) = true := by kernel_rfl
theorem zh9 : (Rows.advisoryChangedRow.unfollowed == Tryz.prog.unfollowed 3) = true := by kernel_rfl
theorem zlw : (Rows.advisoryChangedRow.recurses == Tryz.prog.recurses 3) = true := by kernel_rfl
theorem zsq : (Rows.advisoryChangedRow.named == Tryz.prog.varsNamed 3) = true := by kernel_rfl
theorem closed : joinedFacts Tryz.prog 3 Tryz.f3 (OpenSpec.ofChange Rows.advisoryChangedSpec).bare Rows.advisoryChangedRow = true := by
 unfold joinedFacts
 simp only [zum, zvb, zoi, zh9, zlw, zsq, Bool.and_true]
 kernel_rfl
end Go.Proofs.YtiloljoancdcbaaGreatDoor.advisoryChanged

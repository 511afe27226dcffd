/-
  Lemmas for the law.
-/
import Derived.Test.YtbikeahmldobkaaGreatDoorC51x48
set_option linter.all false
set_option maxRecDepth 100000
namespace Go.Proofs.YtbikeahmldobkaaGreatDoor.affectedOthers
open Go.RowKit
theorem fact_inPlace : (Rows.affectedOthersRow.inPlace == Tryz.prog.inPlace 9) = true := by kernel_rfl
theorem fact_unfollowed : (Rows.affectedOthersRow.unfollowed == Tryz.prog.unfollowed 9) = true := by kernel_rfl
theorem fact_recurses : (Rows.affectedOthersRow.recurses == Tryz.prog.recurses 9) = true := by kernel_rfl
theorem fact_named : (Rows.affectedOthersRow.named == Tryz.prog.varsNamed 9) = true := by kernel_rfl
theorem closed : joinedFacts Tryz.prog 9 Tryz.f9 (OpenSpec.ofChange Rows.affectedOthersSpec).bare Rows.affectedOthersRow = true := by
 unfold joinedFacts
 simp only [zk7, zl6, fact_inPlace, fact_unfollowed, fact_recurses, fact_named, Bool.and_true]
 kernel_rfl
end Go.Proofs.YtbikeahmldobkaaGreatDoor.affectedOthers

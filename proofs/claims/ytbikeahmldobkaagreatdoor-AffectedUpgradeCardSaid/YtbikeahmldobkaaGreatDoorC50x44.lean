/-
  Lemmas for the law.
-/
import Derived.Test.YtbikeahmldobkaaGreatDoorC50x43
set_option linter.all false
set_option maxRecDepth 100000
namespace Go.Proofs.YtbikeahmldobkaaGreatDoor.affectedUpgrade
open Go.RowKit
theorem fact_inPlace : (Rows.affectedUpgradeRow.inPlace == Tryz.prog.inPlace 5) = true := by kernel_rfl
theorem fact_unfollowed : (Rows.affectedUpgradeRow.unfollowed == Tryz.prog.unfollowed 5) = true := by kernel_rfl
theorem fact_recurses : (Rows.affectedUpgradeRow.recurses == Tryz.prog.recurses 5) = true := by kernel_rfl
theorem fact_named : (Rows.affectedUpgradeRow.named == Tryz.prog.varsNamed 5) = true := by kernel_rfl
theorem closed : joinedFacts Tryz.prog 5 Tryz.f5 (OpenSpec.ofChange Rows.affectedUpgradeSpec).bare Rows.affectedUpgradeRow = true := by
 unfold joinedFacts
 simp only [zcc, zct, fact_inPlace, fact_unfollowed, fact_recurses, fact_named, Bool.and_true]
 kernel_rfl
end Go.Proofs.YtbikeahmldobkaaGreatDoor.affectedUpgrade

/-
  Lemmas for the law.
-/
import Derived.Test.YtbikeahmldobkaaGreatDoorC50x43
set_option linter.all false
set_option maxRecDepth 100000
namespace Go.Proofs.YtbikeahmldobkaaGreatDoor.affectedRight
open Go.RowKit
theorem fact_inPlace : (Rows.affectedRightRow.inPlace == Tryz.prog.inPlace 6) = true := by kernel_rfl
theorem fact_unfollowed : (Rows.affectedRightRow.unfollowed == Tryz.prog.unfollowed 6) = true := by kernel_rfl
theorem fact_recurses : (Rows.affectedRightRow.recurses == Tryz.prog.recurses 6) = true := by kernel_rfl
theorem fact_named : (Rows.affectedRightRow.named == Tryz.prog.varsNamed 6) = true := by kernel_rfl
theorem closed : joinedFacts Tryz.prog 6 Tryz.f6 (OpenSpec.ofChange Rows.affectedRightSpec).bare Rows.affectedRightRow = true := by
 unfold joinedFacts
 simp only [zcc, zct, fact_inPlace, fact_unfollowed, fact_recurses, fact_named, Bool.and_true]
 kernel_rfl
end Go.Proofs.YtbikeahmldobkaaGreatDoor.affectedRight

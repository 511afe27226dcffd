/-
  Lemmas for the law.
-/
import Derived.Test.YtbikeahmldobkaaGreatDoorC51x48
set_option linter.all false
set_option maxRecDepth 100000
namespace Go.Proofs.YtbikeahmldobkaaGreatDoor.affectedReplaced
open Go.RowKit
theorem fact_inPlace : (Rows.affectedReplacedRow.inPlace == Tryz.prog.inPlace 7) = true := by kernel_rfl
theorem fact_unfollowed : (Rows.affectedReplacedRow.unfollowed == Tryz.prog.unfollowed 7) = true := by kernel_rfl
theorem fact_recurses : (Rows.affectedReplacedRow.recurses == Tryz.prog.recurses 7) = true := by kernel_rfl
theorem fact_named : (Rows.affectedReplacedRow.named == Tryz.prog.varsNamed 7) = true := by kernel_rfl
theorem closed : joinedFacts Tryz.prog 7 Tryz.f7 (OpenSpec.ofChange Rows.affectedReplacedSpec).bare Rows.affectedReplacedRow = true := by
 unfold joinedFacts
 simp only [zk7, zl6, fact_inPlace, fact_unfollowed, fact_recurses, fact_named, Bool.and_true]
 kernel_rfl
end Go.Proofs.YtbikeahmldobkaaGreatDoor.affectedReplaced

/-
  Lemmas for the law.
-/
import Derived.Test.YtbikeahmldobkaaGreatDoorC50x43
set_option linter.all false
set_option maxRecDepth 100000
namespace Go.Proofs.YtbikeahmldobkaaGreatDoor.affectedOrder
open Go.RowKit
theorem fact_inPlace : (Rows.affectedOrderRow.inPlace == Tryz.prog.inPlace 11) = true := by kernel_rfl
theorem fact_unfollowed : (Rows.affectedOrderRow.unfollowed == Tryz.prog.unfollowed 11) = true := by kernel_rfl
theorem fact_recurses : (Rows.affectedOrderRow.recurses == Tryz.prog.recurses 11) = true := by kernel_rfl
theorem fact_named : (Rows.affectedOrderRow.named == Tryz.prog.varsNamed 11) = true := by kernel_rfl
theorem closed : joinedFacts Tryz.prog 11 Tryz.f11 (OpenSpec.ofChange Rows.affectedOrderSpec).bare Rows.affectedOrderRow = true := by
 unfold joinedFacts
 simp only [zcc, zct, fact_inPlace, fact_unfollowed, fact_recurses, fact_named, Bool.and_true]
 kernel_rfl
end Go.Proofs.YtbikeahmldobkaaGreatDoor.affectedOrder

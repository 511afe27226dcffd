/-
  Lemmas for the law.
-/
import Derived.Test.YtbikeahmldobkaaGreatDoorC50x43
set_option linter.all false
set_option maxRecDepth 100000
namespace Go.Proofs.YtbikeahmldobkaaGreatDoor.affectedUnder
open Go.RowKit
theorem fact_inPlace : (Rows.affectedUnderRow.inPlace == Tryz.prog.inPlace 10) = true := by kernel_rfl
theorem fact_unfollowed : (Rows.affectedUnderRow.unfollowed == Tryz.prog.unfollowed 10) = true := by kernel_rfl
theorem fact_recurses : (Rows.affectedUnderRow.recurses == Tryz.prog.recurses 10) = true := by kernel_rfl
theorem fact_named : (Rows.affectedUnderRow.named == Tryz.prog.varsNamed 10) = true := by kernel_rfl
theorem closed : joinedFacts Tryz.prog 10 Tryz.f10 (OpenSpec.ofChange Rows.affectedUnderSpec).bare Rows.affectedUnderRow = true := by
 unfold joinedFacts
 simp only [zcc, zct, fact_inPlace, fact_unfollowed, fact_recurses, fact_named, Bool.and_true]
 kernel_rfl
end Go.Proofs.YtbikeahmldobkaaGreatDoor.affectedUnder

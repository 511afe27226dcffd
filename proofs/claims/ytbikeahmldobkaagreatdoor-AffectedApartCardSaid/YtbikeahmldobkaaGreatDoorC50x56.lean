/-
  Lemmas for the law.
-/
import Derived.Test.YtbikeahmldobkaaGreatDoorC50x43
set_option linter.all false
set_option maxRecDepth 100000
namespace Go.Proofs.YtbikeahmldobkaaGreatDoor.affectedApart
open Go.RowKit
theorem fact_inPlace : (Rows.affectedApartRow.inPlace == Tryz.prog.inPlace 8) = true := by kernel_rfl
theorem fact_unfollowed : (Rows.affectedApartRow.unfollowed == Tryz.prog.unfollowed 8) = true := by kernel_rfl
theorem fact_recurses : (Rows.affectedApartRow.recurses == Tryz.prog.recurses 8) = true := by kernel_rfl
theorem fact_named : (Rows.affectedApartRow.named == Tryz.prog.varsNamed 8) = true := by kernel_rfl
theorem closed : joinedFacts Tryz.prog 8 Tryz.f8 (OpenSpec.ofChange Rows.affectedApartSpec).bare Rows.affectedApartRow = true := by
 unfold joinedFacts
 simp only [zcc, zct, fact_inPlace, fact_unfollowed, fact_recurses, fact_named, Bool.and_true]
 kernel_rfl
end Go.Proofs.YtbikeahmldobkaaGreatDoor.affectedApart

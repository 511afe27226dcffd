/-
  Lemmas for the law.
-/
import Derived.Test.YtbikeahmldobkaaGreatDoorC42x49
set_option linter.all false
set_option maxRecDepth 100000
namespace Go.Proofs.YtbikeahmldobkaaGreatDoor.affectedHits
open Go.RowKit
theorem znl : (Rows.affectedHitsRow.inPlace == Tryz.prog.inPlace 3) = true := by kernel_rfl
theorem zhr : (Rows.affectedHitsRow.unfollowed == Tryz.prog.unfollowed 3) = true := by kernel_rfl
theorem zk1 : (Rows.affectedHitsRow.recurses == Tryz.prog.recurses 3) = true := by kernel_rfl
theorem zss : (Rows.affectedHitsRow.named == Tryz.prog.varsNamed 3) = true := by kernel_rfl
theorem closed : joinedFacts Tryz.prog 3 Tryz.f3 (OpenSpec.ofChange Rows.affectedHitsSpec).bare Rows.affectedHitsRow = true := by
 unfold joinedFacts
 simp only [zui, zvm, znl, zhr, zk1, zss, Bool.and_true]
 kernel_rfl
end Go.Proofs.YtbikeahmldobkaaGreatDoor.affectedHits

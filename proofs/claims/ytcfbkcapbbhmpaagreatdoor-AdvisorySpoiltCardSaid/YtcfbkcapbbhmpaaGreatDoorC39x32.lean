import Derived.Test.YtcfbkcapbbhmpaaGreatDoorC39x31
set_option linter.all false
set_option maxRecDepth 100000
namespace Go.Proofs.YtcfbkcapbbhmpaaGreatDoor.advisorySpoilt
open Go.RowKit
theorem zpk : (Rows.advisorySpoiltRow.inPlace == Tryz.prog.inPlace 3) = true := by kernel_rfl
theorem zi9 : (Rows.advisorySpoiltRow.unfollowed == Tryz.prog.unfollowed 3) = true := by kernel_rfl
theorem zmy : (Rows.advisorySpoiltRow.recurses == Tryz.prog.recurses 3) = true := by kernel_rfl
theorem ztn : (Rows.advisorySpoiltRow.named == Tryz.prog.varsNamed 3) = true := by kernel_rfl
theorem closed : joinedFacts Tryz.prog 3 Tryz.f3 (OpenSpec.ofChange Rows.advisorySpoiltSpec).bare Rows.advisorySpoiltRow = true := by
 unfold joinedFacts
 simp only [zvg, zv0, zpk, zi9, zmy, ztn, Bool.and_true]
 kernel_rfl
end Go.Proofs.YtcfbkcapbbhmpaaGreatDoor.advisorySpoilt

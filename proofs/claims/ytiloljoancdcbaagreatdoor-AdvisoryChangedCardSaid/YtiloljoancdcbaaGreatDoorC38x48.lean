/-
  Lemmas for the law.
-/
import Derived.Test.YtiloljoancdcbaaGreatDoorC38x47
import Derived.Test.YtiloljoancdcbaaGreatDoorRows
import Derived.Test.YtiloljoancdcbaaGreatDoorC38x07
import Derived.JoinedOf
import Derived.ProofKit
set_option linter.all false
set_option maxRecDepth 100000
namespace Go.Proofs.YtiloljoancdcbaaGreatDoor.laying
open Go.RowKit
noncomputable def laidWorldP (os : Os) : World :=
 { World.holding Tryz.prog os ⟨#[], #[], []⟩ with
   heap := (((((World.holding Tryz.prog os ⟨#[], #[], []⟩).heap.modify 3 (zbo (flat Rows.laid_unicode_utf8_acceptRanges))).modify 2 (zbo (flat Rows.laid_unicode_utf8_first))).modify 1 (zbo (flat Rows.laid_internal_strconv_uint64pow10))).modify 4 (zbo (flat Rows.laid_math_bits_deBruijn32tab))).modify 5 (zbo (flat Rows.laid_math_bits_deBruijn64tab)) }
end Go.Proofs.YtiloljoancdcbaaGreatDoor.laying
namespace Go.Proofs.YtiloljoancdcbaaGreatDoor
open Go.RowKit
theorem zum : laidOutB Tryz.prog = true := by kernel_rfl
theorem zvb : mapsRowed Tryz.prog = true := by kernel_rfl
end Go.Proofs.YtiloljoancdcbaaGreatDoor

/-
  A world for the witnesses of rows that list the tables of numbers' texts too.
-/
import Derived.Test.YtpjjkbdkgaehkaaGreatDoorZ0
namespace Go.Proofs.YtpjjkbdkgaehkaaGreatDoor.laying
open Go.RowKit

/-- the settled world, the five tables holding what their initialisers lay -/
noncomputable def laidWorldP (os : Os) : World :=
  { World.holding Tryz.prog os ⟨#[], #[], []⟩ with
    heap := (((((World.holding Tryz.prog os ⟨#[], #[], []⟩).heap.modify 3 (layCells (flat Rows.laid_unicode_utf8_acceptRanges))).modify 2 (layCells (flat Rows.laid_unicode_utf8_first))).modify 1 (layCells (flat Rows.laid_internal_strconv_uint64pow10))).modify 4 (layCells (flat Rows.laid_math_bits_deBruijn32tab))).modify 5 (layCells (flat Rows.laid_math_bits_deBruijn64tab)) }
end Go.Proofs.YtpjjkbdkgaehkaaGreatDoor.laying

/-
  A world for the witnesses: the tables of the library hold what their initialisers lay.
-/
import Derived.Test.YtoiabbhppbghdaaDoorK
import Derived.Test.YtoiabbhppbghdaaDoorCards
import Derived.Test.YtoiabbhppbghdaaDoorTie
import Derived.ProofKit
import Derived.Deep.DeepHandedRow
import Derived.Lib.LaidTab
namespace Go.Proofs.YtoiabbhppbghdaaDoor.laying
open Go.RowKit

theorem own : ownKnob Tryd.prog.godebug = none := by kernel_rfl
theorem laidOut : laidOutB Tryd.prog = true := by kernel_rfl

mutual
/-- the cells of a datum of numbers -/
def flat : DataW Unit → List Value
  | .lit (.int k n) => [.int k n]
  | .agg ps => flatAll ps
  | _ => []
def flatAll : List (DataW Unit) → List Value
  | [] => []
  | d :: r => flat d ++ flatAll r
end

def layCells (l : List Value) : Obj → Obj
  | .cells _ t frozen => .cells l.toArray t frozen
  | o => o

/-- the settled world, the two tables holding what their initialisers lay -/
noncomputable def laidWorld (os : Os) : World :=
  { World.holding Tryd.prog os ⟨#[], #[], []⟩ with
    heap := ((World.holding Tryd.prog os ⟨#[], #[], []⟩).heap.modify 2 (layCells (flat Rows.laid_unicode_utf8_acceptRanges))).modify 1 (layCells (flat Rows.laid_unicode_utf8_first)) }
end Go.Proofs.YtoiabbhppbghdaaDoor.laying

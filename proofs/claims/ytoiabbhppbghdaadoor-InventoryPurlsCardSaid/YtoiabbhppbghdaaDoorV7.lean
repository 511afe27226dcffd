/-
  Small facts of strings and lists.
-/
import Derived.Test.YtoiabbhppbghdaaDoorV2
namespace Go.Proofs.YtoiabbhppbghdaaDoor
open Go.RowKit

def szOf : Value → Nat
  | .string s => s.size
  | _ => 0

theorem arr_list (l : V.Bs) : l.toArray.toList = l := by simp
end Go.Proofs.YtoiabbhppbghdaaDoor

/-
  Small facts of strings and lists.
-/
import Derived.Test.YtoiabbhppbghdaaV2
namespace Go.Proofs.Ytoiabbhppbghdaa
open Go.RowKit

def szOf : Value → Nat
  | .string s => s.size
  | _ => 0

theorem arr_list (l : V.Bs) : l.toArray.toList = l := by simp
end Go.Proofs.Ytoiabbhppbghdaa

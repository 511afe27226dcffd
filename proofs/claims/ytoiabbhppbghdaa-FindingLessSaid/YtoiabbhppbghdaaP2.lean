/-
  Plain Lean, no program: what the three schemes take for versions.
-/
import Derived.Test.YtoiabbhppbghdaaP
namespace Go.Proofs.Ytoiabbhppbghdaa.V

def identOk (exact : Bool) (x : Bs) : Bool := only (kind [45]) x && !(digits x && !numb x exact)
def identifiers (s : Bs) (exact : Bool) : Bool := (splitOn 46 s).all (identOk exact)
def dotOk (s : Bs) : Bool := (splitOn 46 s).all fun x => numb x false

/-- the parts of a semantic version -/
def semParse (v : Bs) : Option (List Bs × List Bs) :=
  if ((cut1 43 v).2.2 && !identifiers (cut1 43 v).2.1 false) || ((cut1 45 (cut1 43 v).1).2.2 && !identifiers (cut1 45 (cut1 43 v).1).2.1 true) || (splitOn 46 (cut1 45 (cut1 43 v).1).1).length != 3 then none
  else if (splitOn 46 (cut1 45 (cut1 43 v).1).1).all (fun x => numb x true) then
    some (splitOn 46 (cut1 45 (cut1 43 v).1).1, if (cut1 45 (cut1 43 v).1).2.2 then splitOn 46 (cut1 45 (cut1 43 v).1).2.1 else [])
  else none
end Go.Proofs.Ytoiabbhppbghdaa.V

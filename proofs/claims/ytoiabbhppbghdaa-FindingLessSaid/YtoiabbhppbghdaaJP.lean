/-
  Plain Lean, no program: components, inventories.
-/
import Derived.Test.YtoiabbhppbghdaaQP
import Derived.Test.YtoiabbhppbghdaaP3
namespace Go.Proofs.Ytoiabbhppbghdaa.V

/-- a component -/
structure Comp where
  par : Int
  sch : Int
  name : Bs
  ver : Bs
  dig : List Int
deriving DecidableEq

def compOk (c : Comp) : Bool := pathOk c.name && valid c.sch c.ver
/-- the component at place i may follow those before it -/
def compAt (l : List Comp) (i : Nat) (c : Comp) : Bool := compOk c && (decide (-1 ≤ c.par) && (decide (c.par < i) && !decide (c ∈ l.take i)))
def compsTo (l : List Comp) : Nat → Bool
  | 0 => true
  | k + 1 => compsTo l k && match l[k]? with | some c => compAt l k c | none => true
def headOk (art : List Int) (time : Int) (l : List Comp) : Bool := !decide (art = List.replicate 32 0) && (decide (0 ≤ time) && (decide (time ≤ 1099511627776) && decide (l.length ≤ 128)))
def invOk (art : List Int) (time : Int) (l : List Comp) : Bool := headOk art time l && compsTo l l.length

theorem compsTo_step {l : List Comp} {k : Nat} (h : k < l.length) : compsTo l (k + 1) = (compsTo l k && compAt l k l[k]) := by
  show (compsTo l k && match l[k]? with | some c => compAt l k c | none => true) = _
  rw [List.getElem?_eq_getElem h]
theorem compsTo_false {l : List Comp} : ∀ {m k : Nat}, k ≤ m → compsTo l k = false → compsTo l m = false
  | 0, k, h, e => by obtain rfl : k = 0 := by omega
                     exact e
  | m + 1, k, h, e => by
    by_cases g : k = m + 1
    · subst g; exact e
    · show (compsTo l m && _) = false
      rw [compsTo_false (by omega) e]; rfl
theorem compsTo_le {l : List Comp} {k m : Nat} (h : k ≤ m) (e : compsTo l m = true) : compsTo l k = true := by
  rcases hh : compsTo l k with _ | _
  · rw [compsTo_false h hh] at e; cases e
  · rfl
theorem compsTo_at {l : List Comp} {k : Nat} (e : compsTo l l.length = true) (h : k < l.length) : compAt l k l[k] = true := by
  have := compsTo_le (show k + 1 ≤ l.length by omega) e
  rw [compsTo_step h] at this
  exact (Bool.and_eq_true_iff.1 this).2
theorem compAt_iff {l : List Comp} {k : Nat} {c : Comp} : compAt l k c = true ↔ compOk c = true ∧ -1 ≤ c.par ∧ c.par < k ∧ c ∉ l.take k := by
  unfold compAt; simp [Bool.and_eq_true]
end Go.Proofs.Ytoiabbhppbghdaa.V

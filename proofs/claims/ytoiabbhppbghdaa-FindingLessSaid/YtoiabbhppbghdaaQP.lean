/-
  Plain Lean, no program: paths.
-/
import Derived.Test.YtoiabbhppbghdaaP
namespace Go.Proofs.Ytoiabbhppbghdaa.V

def partOk (x : Bs) : Bool := !(x == []) && !(x == [46]) && !(x == [46, 46])
def partsOk (s : Bs) : Bool := (splitOn 47 s).all partOk
def pathOk (s : Bs) : Bool := decide (1 ≤ s.length) && decide (s.length ≤ 200) && !decide ((0 : UInt8) ∈ s) && partsOk s

theorem parts_none {s : Bs} (h : (47 : UInt8) ∉ s) : partsOk s = partOk s := by
  unfold partsOk; rw [splitOn_none h]; simp
theorem parts_some {s : Bs} (h : (47 : UInt8) ∈ s) : partsOk s = (partOk (s.takeWhile (· != 47)) && partsOk (s.drop ((s.takeWhile (· != 47)).length + 1))) := by
  unfold partsOk; rw [splitOn_some h]; simp
/-- by the cut at the first slash -/
theorem parts_cut (s : Bs) : partsOk s = if (cut1 47 s).2.2 then partOk (cut1 47 s).1 && partsOk (cut1 47 s).2.1 else partOk (cut1 47 s).1 := by
  unfold cut1
  by_cases h : (47 : UInt8) ∈ s
  · rw [if_pos h]; simp only [if_true]; exact parts_some h
  · rw [if_neg h]; simp only [Bool.false_eq_true, if_false]; exact parts_none h
theorem partOk_cases (x : Bs) : (x = [] ∧ partOk x = false) ∨ (x = [46] ∧ partOk x = false) ∨ (x = [46, 46] ∧ partOk x = false) ∨ ((x == []) = false ∧ (x == [46]) = false ∧ (x == [46, 46]) = false ∧ partOk x = true) := by
  unfold partOk
  by_cases h1 : x = []
  · subst h1; exact .inl ⟨rfl, rfl⟩
  · by_cases h2 : x = [46]
    · subst h2; exact .inr (.inl ⟨rfl, rfl⟩)
    · by_cases h3 : x = [46, 46]
      · subst h3; exact .inr (.inr (.inl ⟨rfl, rfl⟩))
      · have e1 : (x == []) = false := beq_eq_false_iff_ne.2 h1
        have e2 : (x == [46]) = false := beq_eq_false_iff_ne.2 h2
        have e3 : (x == [46, 46]) = false := beq_eq_false_iff_ne.2 h3
        exact .inr (.inr (.inr ⟨e1, e2, e3, by rw [e1, e2, e3]; rfl⟩))
end Go.Proofs.Ytoiabbhppbghdaa.V

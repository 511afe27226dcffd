/-
  Plain Lean, no program: paths.
  Plain Lean, no program: components, inventories.
-/
import Derived.Test.YtpjjkbdkgaehkaaGreatDoorP6
namespace Go.Proofs.YtpjjkbdkgaehkaaGreatDoor.V

def partOk (x : Bs) : Bool := !(x == []) && !(x == [46]) && !(x == [46, 46])
def partsOk (s : Bs) : Bool := (splitOn 47 s).all partOk
def pathOk (s : Bs) : Bool := decide (1 ≤ s.length) && decide (s.length ≤ 200) && !decide ((0 : UInt8) ∈ s) && partsOk s

theorem parts_none {s : Bs} (h : (47 : UInt8) ∉ s) : partsOk s = partOk s := by
  unfold partsOk; rw [splitOn_none h]; simp
theorem parts_some {s : Bs} (h : (47 : UInt8) ∈ s) : partsOk s = (partOk (s.takeWhile (· != 47)) && partsOk (s.drop ((s.takeWhile (· != 47)).length + 1))) := by
  unfold partsOk; rw [splitOn_some h]; simp
/-- by the cut at the first slash -/
theorem parts_cut (s : Bs) : partsOk s = if (cut1 47 s).2.2 then partOk (cut1 47 s).1 && partsOk (cut1 47 s).2.1 else partOk (cut1 47 s).1 := by
  unfold cut1
  by_cases h : (47 : UInt8) ∈ s
  · rw [if_pos h]; simp only [if_true]; exact parts_some h
  · rw [if_neg h]; simp only [Bool.false_eq_true, if_false]; exact parts_none h
theorem partOk_cases (x : Bs) : (x = [] ∧ partOk x = false) ∨ (x = [46] ∧ partOk x = false) ∨ (x = [46, 46] ∧ partOk x = false) ∨ ((x == []) = false ∧ (x == [46]) = false ∧ (x == [46, 46]) = false ∧ partOk x = true) := by
  unfold partOk
  by_cases h1 : x = []
  · subst h1; exact .inl ⟨rfl, rfl⟩
  · by_cases h2 : x = [46]
    · subst h2; exact .inr (.inl ⟨rfl, rfl⟩)
    · by_cases h3 : x = [46, 46]
      · subst h3; exact .inr (.inr (.inl ⟨rfl, rfl⟩))
      · have e1 : (x == []) = false := beq_eq_false_iff_ne.2 h1
        have e2 : (x == [46]) = false := beq_eq_false_iff_ne.2 h2
        have e3 : (x == [46, 46]) = false := beq_eq_false_iff_ne.2 h3
        exact .inr (.inr (.inr ⟨e1, e2, e3, by rw [e1, e2, e3]; rfl⟩))
end Go.Proofs.YtpjjkbdkgaehkaaGreatDoor.V
namespace Go.Proofs.YtpjjkbdkgaehkaaGreatDoor.V

/-- a component -/
structure Comp where
  par : Int
  sch : Int
  name : Bs
  ver : Bs
  dig : List Int
deriving DecidableEq

def compOk (c : Comp) : Bool := pathOk c.name && valid c.sch c.ver
/-- the component at place i may follow those before it -/
def compAt (l : List Comp) (i : Nat) (c : Comp) : Bool := compOk c && (decide (-1 ≤ c.par) && (decide (c.par < i) && !decide (c ∈ l.take i)))
def compsTo (l : List Comp) : Nat → Bool
  | 0 => true
  | k + 1 => compsTo l k && match l[k]? with | some c => compAt l k c | none => true
def headOk (art : List Int) (time : Int) (l : List Comp) : Bool := !decide (art = List.replicate 32 0) && (decide (0 ≤ time) && (decide (time ≤ 1099511627776) && decide (l.length ≤ 128)))
def invOk (art : List Int) (time : Int) (l : List Comp) : Bool := headOk art time l && compsTo l l.length

theorem compsTo_step {l : List Comp} {k : Nat} (h : k < l.length) : compsTo l (k + 1) = (compsTo l k && compAt l k l[k]) := by
  show (compsTo l k && match l[k]? with | some c => compAt l k c | none => true) = _
  rw [List.getElem?_eq_getElem h]
theorem compsTo_false {l : List Comp} : ∀ {m k : Nat}, k ≤ m → compsTo l k = false → compsTo l m = false
  | 0, k, h, e => by obtain rfl : k = 0 := by omega
                     exact e
  | m + 1, k, h, e => by
    by_cases g : k = m + 1
    · subst g; exact e
    · show (compsTo l m && _) = false
      rw [compsTo_false (by omega) e]; rfl
theorem compsTo_le {l : List Comp} {k m : Nat} (h : k ≤ m) (e : compsTo l m = true) : compsTo l k = true := by
  rcases hh : compsTo l k with _ | _
  · rw [compsTo_false h hh] at e; cases e
  · rfl
theorem compsTo_at {l : List Comp} {k : Nat} (e : compsTo l l.length = true) (h : k < l.length) : compAt l k l[k] = true := by
  have := compsTo_le (show k + 1 ≤ l.length by omega) e
  rw [compsTo_step h] at this
  exact (Bool.and_eq_true_iff.1 this).2
theorem compAt_iff {l : List Comp} {k : Nat} {c : Comp} : compAt l k c = true ↔ compOk c = true ∧ -1 ≤ c.par ∧ c.par < k ∧ c ∉ l.take k := by
  unfold compAt; simp [Bool.and_eq_true]
end Go.Proofs.YtpjjkbdkgaehkaaGreatDoor.V

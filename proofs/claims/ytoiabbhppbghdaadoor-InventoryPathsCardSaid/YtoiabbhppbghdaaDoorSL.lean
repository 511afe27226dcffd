/-
  Slices of strings: their elements as an index reads them.
-/
import Derived.Test.YtoiabbhppbghdaaDoorS1
namespace Go.Proofs.YtoiabbhppbghdaaDoor
open Go.RowKit

/-- an element of a slice of strings, as an index reads it -/
theorem Strs.at {w : World} {a : Option Addr} {n cap : Nat} {l : List V.Bs} (h : Strs w (.slice a n cap) l) (j : Nat) (hj : j < l.length) :
    ∃ b off, a = some ⟨b, off, none⟩ ∧ b < w.heap.size ∧ w.cell? ⟨b, off + j, none⟩ = some (.string ⟨(l.getD j []).toArray⟩) := by
  obtain ⟨a', c, e, hc⟩ := h
  obtain ⟨b, off, ea, hb, hcell⟩ := hc j hj
  cases e
  refine ⟨b, off, ea, hb, ?_⟩
  rw [List.getD_eq_getElem?_getD, List.getElem?_eq_getElem hj]
  exact hcell

theorem Strs.slice {w : World} {v : Value} {l : List V.Bs} (h : Strs w v l) : ∃ a cap, v = .slice a l.length cap := by
  obtain ⟨a, c, e, _⟩ := h
  exact ⟨a, c, e⟩

/-- a slice of some strings: its address and its cells -/
theorem Strs.head {w : World} {v : Value} {l : List V.Bs} (h : Strs w v l) (h0 : 0 < l.length) :
    ∃ b off cap, v = .slice (some ⟨b, off, none⟩) l.length cap ∧ b < w.heap.size ∧ ∀ j, j < l.length → w.cell? ⟨b, off + j, none⟩ = some (.string ⟨(l.getD j []).toArray⟩) := by
  obtain ⟨a, c, e, hc⟩ := h
  obtain ⟨b, off, rfl, hb, _⟩ := hc 0 h0
  refine ⟨b, off, c, e, hb, fun j hj => ?_⟩
  obtain ⟨b', off', ea, _, hcell⟩ := hc j hj
  cases ea
  rw [List.getD_eq_getElem?_getD, List.getElem?_eq_getElem hj]
  exact hcell

end Go.Proofs.YtoiabbhppbghdaaDoor

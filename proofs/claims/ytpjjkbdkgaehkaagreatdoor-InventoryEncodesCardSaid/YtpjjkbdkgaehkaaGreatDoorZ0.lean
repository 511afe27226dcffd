/-
  Arguments read: slices of numbers and of strings.
  A world for the witnesses: the tables of the library hold what their initialisers lay.
-/
import Derived.Test.YtpjjkbdkgaehkaaGreatDoorTN
import Derived.Test.YtpjjkbdkgaehkaaGreatDoorV6
import Derived.Test.YtpjjkbdkgaehkaaGreatDoorCards
import Derived.Test.YtpjjkbdkgaehkaaGreatDoorTie
import Derived.ProofKit
import Derived.SliceStrings
import Derived.Deep.DeepHandedRow
import Derived.Lib.LaidTab
namespace Go.Proofs.YtpjjkbdkgaehkaaGreatDoor
open Go.ChangeShapes Go.WideShapes Go.ChangeAt Go.RowKit

theorem cellsI : Tryz.prog.cellsOf 3 = 1 := by kernel_rfl
theorem cellsS : Tryz.prog.cellsOf 9 = 1 := by kernel_rfl

set_option maxRecDepth 100000 in
theorem read_nums {H : Type} {enc : TypeId × Value → H} {W : World} {base : Nat} {v : Value} {d : DataW H} {p : List MemPlace} (hv : Value.okWide Tryz.prog W .any base 27 v)
    (h : DataW.Trod enc Tryz.prog W 0 (fun _ => true) true 27 v d p) : ∃ a m cap, v = .slice a m cap ∧ Nums W a m := by
  obtain ⟨a0, len, cap, rfl⟩ := okWide_slice Tryz.underlying27 hv
  refine ⟨a0, len, cap, rfl, ?_⟩
  obtain ⟨fuel0, hf⟩ := h
  rcases open_ints Tryz.underlying27 Tryz.underlying3 cellsI hf with ⟨hcs, hx⟩ | ⟨a, len', cap', zs, hcs, _, hl, hm, hz, hx, hcell, hwz⟩
  · simp [Value.cells] at hcs
    obtain ⟨rfl, rfl, rfl⟩ := hcs
    exact ⟨by decide, fun j hj => absurd hj (by omega)⟩
  · simp [Value.cells] at hcs
    obtain ⟨rfl, rfl, rfl⟩ := hcs
    simp only [if_true] at hz
    refine ⟨by omega, fun j hj => ?_⟩
    obtain ⟨b, off, spot⟩ := a
    have hspot : spot = none := by simpa [Addr.add] using World.cell?_spot (hcell 0 (by omega))
    subst hspot
    have hc := hcell j (by omega)
    rw [add_plain] at hc
    have hin : zs.getD j 0 ∈ zs := by rw [List.getD_eq_getElem?_getD, List.getElem?_eq_getElem (by omega)]; exact List.getElem_mem _
    exact ⟨b, off, zs.getD j 0, rfl, World.block_lt_of_cell? _ _ hc, hc, hwz _ hin⟩

set_option maxRecDepth 100000 in
theorem read_strs {H : Type} {enc : TypeId × Value → H} {W : World} {base : Nat} {v : Value} {d : DataW H} {p : List MemPlace} (hv : Value.okWide Tryz.prog W .any base 49 v)
    (h : DataW.Trod enc Tryz.prog W 0 (fun _ => true) true 49 v d p) : ∃ L : List V.Bs, Strs W v L ∧ L.length ≤ maxLen ∧ ∀ x ∈ L, x.length ≤ maxLen := by
  obtain ⟨a0, len, cap, rfl⟩ := okWide_slice Tryz.underlying49 hv
  obtain ⟨fuel0, hf⟩ := h
  rcases open_strings Tryz.underlying49 Tryz.underlying9 cellsS hf with ⟨hcs, hx⟩ | ⟨a, len', cap', ss, hcs, _, hl, hm, hz, hx, hcell, hwz⟩
  · simp [Value.cells] at hcs
    obtain ⟨rfl, rfl, rfl⟩ := hcs
    exact ⟨[], Strs.nil W, by simp, fun x hx => by simp at hx⟩
  · simp [Value.cells] at hcs
    obtain ⟨rfl, rfl, rfl⟩ := hcs
    simp only [if_true] at hz
    have hll : ((ss.take len).map fun s : ByteArray => s.data.toList).length = len := by rw [List.length_map, List.length_take]; omega
    refine ⟨(ss.take len).map fun s : ByteArray => s.data.toList, ⟨some a, cap, by rw [hll], fun j hj => ?_⟩, by omega, fun x hx => ?_⟩
    · rw [hll] at hj
      obtain ⟨b, off, spot⟩ := a
      have hspot : spot = none := by simpa [Addr.add] using World.cell?_spot (hcell 0 (by omega))
      subst hspot
      have hc := hcell j (by omega)
      rw [add_plain] at hc
      refine ⟨b, off, rfl, World.block_lt_of_cell? _ _ hc, ?_⟩
      rw [hc]
      congr 2
      rw [List.getElem_map, List.getElem_take, List.getD_eq_getElem?_getD, List.getElem?_eq_getElem (by omega)]
      exact (bs_of _).symm
    · rw [List.mem_map] at hx
      obtain ⟨s, hs, rfl⟩ := hx
      rw [bs_size]
      exact hwz s (List.mem_of_mem_take hs)
end Go.Proofs.YtpjjkbdkgaehkaaGreatDoor
namespace Go.Proofs.YtpjjkbdkgaehkaaGreatDoor.laying
open Go.RowKit

theorem own : ownKnob Tryz.prog.godebug = none := by kernel_rfl
theorem laidOut : laidOutB Tryz.prog = true := by kernel_rfl

mutual
/-- the cells of a datum of numbers -/
def flat : DataW Unit → List Value
  | .lit (.int k n) => [.int k n]
  | .agg ps => flatAll ps
  | _ => []
def flatAll : List (DataW Unit) → List Value
  | [] => []
  | d :: r => flat d ++ flatAll r
end

def layCells (l : List Value) : Obj → Obj
  | .cells _ t frozen => .cells l.toArray t frozen
  | o => o

/-- the settled world, the two tables holding what their initialisers lay -/
noncomputable def laidWorld (os : Os) : World :=
  { World.holding Tryz.prog os ⟨#[], #[], []⟩ with
    heap := ((World.holding Tryz.prog os ⟨#[], #[], []⟩).heap.modify 3 (layCells (flat Rows.laid_unicode_utf8_acceptRanges))).modify 2 (layCells (flat Rows.laid_unicode_utf8_first)) }
end Go.Proofs.YtpjjkbdkgaehkaaGreatDoor.laying

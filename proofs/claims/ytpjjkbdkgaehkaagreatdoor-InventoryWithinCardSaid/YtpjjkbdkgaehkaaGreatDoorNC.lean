/-
  Walk: condition of package ranges. (Printed by gen_NA.py.)
  Walk: alternative of package ranges.
-/
import Derived.Test.YtpjjkbdkgaehkaaGreatDoorMX
import Derived.Test.YtpjjkbdkgaehkaaGreatDoorMF
import Derived.Test.YtpjjkbdkgaehkaaGreatDoorCO
import Derived.Test.YtpjjkbdkgaehkaaGreatDoorMO
import Derived.Deep.RegionHeld3
import Derived.Outline
namespace Go.Proofs.YtpjjkbdkgaehkaaGreatDoor
open Go.RowKit

namespace V
theorem valid_nil (n : Int) : valid n [] = false := rfl
end V

/-- the interval of a condition, or none -/
def CondPost (r : Option V.Itv) (w : World) (e : Ending) (w' : World) : Prop :=
  ∃ (y : V.Itv) (b : Bool), e = .returned (.tuple #[itvV y, .bool b]) ∧ (b = false ∧ r = none ∨ b = true ∧ r = some y) ∧ Below w.heap.size w w'
theorem condPost_mk {r : Option V.Itv} {y : V.Itv} {b : Bool} {w w' : World} (h : r = if b then some y else none) (hb : Below w.heap.size w w') : CondPost r w (.returned (.tuple #[itvV y, .bool b])) w' := by
  refine ⟨y, b, rfl, ?_, hb⟩
  rw [h]
  cases b
  · exact .inl ⟨rfl, rfl⟩
  · exact .inr ⟨rfl, rfl⟩
theorem keep4 {w w' : World} {g : Nat} {cs : Array Value} {t : TypeId} (hb : Below w.heap.size w w') (h : w.heap[g]? = some (.cells cs t (0, 0))) : w'.heap[g]? = some (.cells cs t (0, 0)) :=
  (hb.block g (Array.getElem?_eq_some_iff.1 h).1).trans h

end Go.Proofs.YtpjjkbdkgaehkaaGreatDoor
namespace Go.Proofs.YtpjjkbdkgaehkaaGreatDoor
open Go.RowKit

/-- the set of an alternative, or none -/
def AltPost (n : Int) (r : Option (List V.Itv)) (w : World) (e : Ending) (w' : World) : Prop :=
  ∃ (m : Int) (u : Value) (l : List V.Itv) (b : Bool), e = .returned (.tuple #[setV m u, .bool b]) ∧ (b = false ∧ r = none ∨ b = true ∧ m = n ∧ r = some l) ∧ Itvs w' u l ∧ (∀ c, u.ownBlock = some c → w.heap.size ≤ c) ∧ Below w.heap.size w w'
theorem AltPost.no {n : Int} {w w' : World} (h : Below w.heap.size w w') : AltPost n none w (.returned (.tuple #[setV 0 (.slice none 0 0), .bool false])) w' :=
  ⟨0, _, [], false, rfl, .inl ⟨rfl, rfl⟩, Itvs.nil _, (fun c hc => by cases hc), h⟩
theorem AltPost.yes {n : Int} {w w' : World} {u : Value} {l : List V.Itv} {r : Option (List V.Itv)} (hr : r = some l) (h : Below w.heap.size w w') (hu : Itvs w' u l) (ho : ∀ c, u.ownBlock = some c → w.heap.size ≤ c) : AltPost n r w (.returned (.tuple #[setV n u, .bool true])) w' :=
  ⟨n, u, l, true, rfl, .inr ⟨rfl, rfl, hr⟩, hu, ho, h⟩
theorem altGo_step {n : Int} {out : List V.Itv} {L : List V.Bs} {k : Nat} {y : V.Itv} (hk : k < L.length) (hy : V.condP n L[k] = some y) : V.altGo n out (L.drop k) = V.altGo n (V.opL n V.andF out [y]) (L.drop (k + 1)) := by
  rw [List.drop_eq_getElem_cons hk, V.altGo, hy]
theorem altGo_none {n : Int} {out : List V.Itv} {L : List V.Bs} {k : Nat} (hk : k < L.length) (hy : V.condP n L[k] = none) : V.altGo n out (L.drop k) = none := by
  rw [List.drop_eq_getElem_cons hk, V.altGo, hy]
theorem itvs_at {w : World} {b : Nat} {y : V.Itv} (h : w.heap[b]? = some (.cells (itvC y) 80 (0, 0))) : Itvs w (.slice (some ⟨b, 0, none⟩) 1 1) [y] := by
  refine ⟨_, 1, rfl, fun j hj => ?_⟩
  obtain rfl : j = 0 := by simpa using hj
  exact ⟨b, 0, rfl, (Array.getElem?_eq_some_iff.1 h).1, Lib.cell_of_heap h 0, Lib.cell_of_heap h 1, Lib.cell_of_heap h 2, Lib.cell_of_heap h 3⟩
/-- what the loop over the conditions keeps: block B holds the result, block X the set u of the intervals out, block G the texts L -/
structure AltInv (n : Int) (w : World) (B X G : Nat) (L : List V.Bs) (out : List V.Itv) (u : Value) (W : World) : Prop where
  below : Below w.heap.size w W
  res : W.heap[B]? = some (.cells #[.int .i64 0, .slice none 0 0] 39 (0, 0))
  box : W.heap[X]? = some (.cells #[.int .i64 n, u] 39 (0, 0))
  one : V.One n out
  set : Itvs W u out
  own : ∀ c, u.ownBlock = some c → w.heap.size ≤ c ∧ c ≠ X ∧ c ≠ B
  txt : ∀ j (h : j < L.length), W.cell? ⟨G, j, none⟩ = some (.string ⟨L[j].toArray⟩)
theorem AltInv.later {n : Int} {w W W' : World} {B X G : Nat} {L : List V.Bs} {out : List V.Itv} {u : Value} (h : AltInv n w B X G L out u W) (hb : Below W.heap.size W W') : AltInv n w B X G L out u W' :=
  ⟨h.below.trans (hb.mono h.below.size), keep4 hb h.res, keep4 hb h.box, h.one, h.set.below hb, h.own, fun j hj => below_keep hb (h.txt j hj)⟩
/-- a further set in block X -/
theorem AltInv.put {n : Int} {w W W' : World} {B X G : Nat} {L : List V.Bs} {out out' : List V.Itv} {u u' : Value} (h : AltInv n w B X G L out u W) (hp : PutAt W W' X #[.int .i64 n, u'] 39) (hX : w.heap.size ≤ X) (hBX : B ≠ X) (hGX : G ≠ X)
    (ho : V.One n out') (hs : Itvs W u' out') (hw : ∀ c, u'.ownBlock = some c → w.heap.size ≤ c ∧ c ≠ X ∧ c ≠ B) : AltInv n w B X G L out' u' W' :=
  ⟨hp.below h.below hX, hp.other h.res hBX, hp.here, ho, hp.itvs hs (fun c hc => (hw c hc).2.1), hw, fun j hj => hp.cell (h.txt j hj) hGX⟩

end Go.Proofs.YtpjjkbdkgaehkaaGreatDoor

/-
  Small facts of the laws about range sets.
-/
import Derived.Test.YtolojkkhmamddaaGreatDoorNL
import Derived.Test.YtolojkkhmamddaaGreatDoorMW
import Derived.Test.YtolojkkhmamddaaGreatDoorMV
namespace Go.Proofs.YtolojkkhmamddaaGreatDoor
open Go.RowKit

theorem Nums.later {w w' : World} {a : Option Addr} {m : Nat} (h : Nums w a m) (hb : Below w.heap.size w w') : Nums w' a m := by
  refine ⟨h.1, fun j hj => ?_⟩
  obtain ⟨b', off, x, rfl, h1, h2, h3⟩ := h.2 j hj
  exact ⟨b', off, x, rfl, Nat.lt_of_lt_of_le h1 hb.size, below_keep hb h2, h3⟩
theorem lens_wf {l : List V.Itv} (h : ∀ c ∈ l, ItvWf c) : Lens l := fun x hx => ⟨(h x hx).1, (h x hx).2.1⟩
theorem box_new (w : World) (n : Int) (p : Option Addr) (q : Nat) (l : List V.Itv) (h : Itvs w (.slice p l.length q) l) : BoxAt (w.alloc (.cells #[.int .i64 n, .slice p l.length q] 25)) w.heap.size n p q l :=
  ⟨by rw [heap_alloc, if_pos rfl], h.below ((Below.refl _ _).alloc (Nat.le_refl _) _)⟩
theorem below_new (w : World) (o : Obj) : Below w.heap.size w (w.alloc o) := (Below.refl _ _).alloc (Nat.le_refl _) _
end Go.Proofs.YtolojkkhmamddaaGreatDoor

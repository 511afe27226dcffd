/-
  Walk: combine of package ranges.
  Walks: the operations of package ranges.
  Walks: Union, Intersect, Minus, Complement, Subset, All, None of package ranges.
-/
import Derived.Test.YtpjjkbdkgaehkaaGreatDoorMF
import Derived.Test.YtpjjkbdkgaehkaaGreatDoorU9
import Derived.StillTailTactics
namespace Go.Proofs.YtpjjkbdkgaehkaaGreatDoor
open Go.RowKit

theorem bytesLess_at : ∀ a b : V.Bs, Op.bytesLess a b = decide (V.cb a b < 0)
  | [], [] => rfl
  | [], _ :: _ => rfl
  | _ :: _, [] => rfl
  | x :: a, y :: b => by
    unfold Op.bytesLess
    rcases V.cb_cons x y a b with ⟨h, e⟩ | ⟨h, e⟩ | ⟨h, e⟩
    · rw [e]; simp [h]
    · subst h
      have : ¬ x < x := by simp
      rw [e, ← bytesLess_at a b]; simp [this]
    · have h1 : ¬ x < y := fun g => by rw [UInt8.lt_iff_toNat_lt] at h g; omega
      have h2 : (x == y) = false := by
        rw [beq_eq_false_iff_ne]; intro g; subst g; simp at h
      rw [e, h2]; simp [h1]
theorem PutAt.itvs {w W : World} {g : Nat} {new : Array Value} {t : TypeId} {u : Value} {l : List V.Itv} (h : PutAt w W g new t) (hu : Itvs w u l) (hne : ∀ c, u.ownBlock = some c → c ≠ g) : Itvs W u l := by
  obtain ⟨a, cap, rfl, hc⟩ := hu
  refine ⟨a, cap, rfl, fun j hj => ?_⟩
  obtain ⟨b, off, rfl, hlt, h0, h1, h2, h3⟩ := hc j hj
  have hb := hne b rfl
  exact ⟨b, off, rfl, by rw [h.size]; exact hlt, h.cell h0 hb, h.cell h1 hb, h.cell h2 hb, h.cell h3 hb⟩
namespace V
end V
end Go.Proofs.YtpjjkbdkgaehkaaGreatDoor
namespace Go.Proofs.YtpjjkbdkgaehkaaGreatDoor
open Go.RowKit

/-- a range set that a call returns with an error's code: (scheme, intervals, code) -/
def SetPost (r : Int × List V.Itv × Int) (w : World) (e : Ending) (w' : World) : Prop :=
  ∃ u, e = .returned (.tuple #[setV r.1 u, .int .i64 r.2.2]) ∧ Itvs w' u r.2.1 ∧ (∀ c, u.ownBlock = some c → w.heap.size ≤ c) ∧ Below w.heap.size w w'
theorem SetPost.zero {w w' : World} (h : Below w.heap.size w w') (k : Int) : SetPost (0, [], k) w (.returned (.tuple #[setV 0 (.slice none 0 0), .int .i64 k])) w' :=
  ⟨_, rfl, Itvs.nil _, (fun c hc => by cases hc), h⟩

end Go.Proofs.YtpjjkbdkgaehkaaGreatDoor
namespace Go.Proofs.YtpjjkbdkgaehkaaGreatDoor
open Go.RowKit


def allP (n : Int) : Int × List V.Itv × Int := if V.scheme n then (n, [V.noI], 0) else (0, [], 14)
theorem itvs_one (w : World) : Itvs (w.alloc (.cells #[.string ⟨#[]⟩, .int .i64 0, .string ⟨#[]⟩, .int .i64 0] 80)) (.slice (some ⟨w.heap.size, 0, none⟩) 1 1) [V.noI] := by
  refine ⟨some ⟨w.heap.size, 0, none⟩, 1, rfl, fun j hj => ?_⟩
  obtain rfl : j = 0 := by simpa using hj
  exact ⟨w.heap.size, 0, rfl, by simp, by simp [cell_alloc, V.noI], by simp [cell_alloc, V.noI], by simp [cell_alloc, V.noI], by simp [cell_alloc, V.noI]⟩
end Go.Proofs.YtpjjkbdkgaehkaaGreatDoor

/-
  Walks: versions of Debian packages valid.
-/
import Derived.Test.YtoiabbhppbghdaaD2
namespace Go.Proofs.Ytoiabbhppbghdaa
open Go.RowKit

theorem debPost_none {r : Option (V.Bs × V.Bs × V.Bs)} {w : World} {e : Ending} {w' : World} (h : DebPost r w e w') (hr : r = none) :
    e = .returned (.tuple #[.agg #[.string ⟨#[]⟩, .string ⟨#[]⟩, .string ⟨#[]⟩], .bool false]) ∧ Below w.heap.size w w' := by
  subst hr; exact ⟨h.2, h.1⟩
theorem debPost_some {r : Option (V.Bs × V.Bs × V.Bs)} {a b c : V.Bs} {w : World} {e : Ending} {w' : World} (h : DebPost r w e w') (hr : r = some (a, b, c)) :
    e = .returned (.tuple #[.agg #[.string ⟨a.toArray⟩, .string ⟨b.toArray⟩, .string ⟨c.toArray⟩], .bool true]) ∧ Below w.heap.size w w' := by
  subst hr; exact ⟨h.2, h.1⟩

set_option maxRecDepth 100000 in
set_option maxHeartbeats 800000 in
theorem debValid_any (s : ByteArray) (w : World) (hm : MaxOk w) (hs : s.size ≤ 1000) :
    Calls Try.prog 124 #[.agg #[], .string s] w fun e w' => e = .returned (.bool (V.debParse s.data.toList).isSome) ∧ Below w.heap.size w w' := by
  have hb0 : Below w.heap.size w (w.alloc (.cells #[] 121)) := (Below.refl _ w).alloc (Nat.le_refl _) _
  have hm0 := hm.below hb0
  rcases hp : V.debParse s.data.toList with _ | ⟨a, b, c⟩
  · have HP := Lib.hid hp
    have HB0 := Lib.hid hb0
    clear hp hb0
    go_enter Try.func124, Try.ntmps124
    go_wp2_with fail
    refine (debParse_any s _ hm0 hs).mono ?_
    rintro e w1 h
    obtain ⟨rfl, hb1⟩ := debPost_none h HP.out
    have HB1 := Lib.hid (HB0.out.trans (hb1.mono HB0.out.size))
    clear h hb1
    go_wp2
    go_ret
    refine ⟨ret_bool rfl, ?_⟩
    exact (HB1.out.alloc HB1.out.size _)
  · have HP := Lib.hid hp
    have HB0 := Lib.hid hb0
    clear hp hb0
    go_enter Try.func124, Try.ntmps124
    go_wp2_with fail
    refine (debParse_any s _ hm0 hs).mono ?_
    rintro e w1 h
    obtain ⟨rfl, hb1⟩ := debPost_some h HP.out
    have HB1 := Lib.hid (HB0.out.trans (hb1.mono HB0.out.size))
    clear h hb1
    go_wp2
    go_ret
    refine ⟨ret_bool rfl, ?_⟩
    exact (HB1.out.alloc HB1.out.size _)
end Go.Proofs.Ytoiabbhppbghdaa

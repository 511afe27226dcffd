/-
  Walks: semantic versions valid.
-/
import Derived.Test.YtoiabbhppbghdaaS2
import Derived.Test.YtoiabbhppbghdaaP3
namespace Go.Proofs.Ytoiabbhppbghdaa
open Go.RowKit

theorem semPost_none {r : Option (List V.Bs × List V.Bs)} {w : World} {e : Ending} {w' : World} (h : SemPost r w e w') (hr : r = none) :
    e = .returned (.tuple #[.agg #[.string ⟨#[]⟩, .string ⟨#[]⟩, .string ⟨#[]⟩, .slice none 0 0], .bool false]) ∧ Below w.heap.size w w' := by
  subst hr; exact ⟨h.2, h.1⟩
theorem semPost_some {r : Option (List V.Bs × List V.Bs)} {l pre : List V.Bs} {w : World} {e : Ending} {w' : World} (h : SemPost r w e w') (hr : r = some (l, pre)) :
    ∃ pv, e = .returned (.tuple #[.agg #[.string ⟨(l.getD 0 []).toArray⟩, .string ⟨(l.getD 1 []).toArray⟩, .string ⟨(l.getD 2 []).toArray⟩, pv], .bool true]) ∧ Strs w' pv pre ∧ Below w.heap.size w w' := by
  subst hr; obtain ⟨h1, pv, h2, h3⟩ := h; exact ⟨pv, h3, h2, h1⟩

set_option maxRecDepth 100000 in
set_option maxHeartbeats 800000 in
theorem semValid_any (s : ByteArray) (w : World) (hm : MaxOk w) (hs : s.size ≤ 1000) :
    Calls Try.prog 102 #[.agg #[], .string s] w fun e w' => e = .returned (.bool (V.semParse s.data.toList).isSome) ∧ Below w.heap.size w w' := by
  have hb0 : Below w.heap.size w (w.alloc (.cells #[] 120)) := (Below.refl _ w).alloc (Nat.le_refl _) _
  have hm0 := hm.below hb0
  rcases hp : V.semParse s.data.toList with _ | ⟨l, pre⟩
  · have HP := Lib.hid hp
    have HB0 := Lib.hid hb0
    clear hp hb0
    go_enter Try.func102, Try.ntmps102
    go_wp2_with fail
    refine (semParse_any s _ hm0 hs).mono ?_
    rintro e w1 h
    obtain ⟨rfl, hb1⟩ := semPost_none h HP.out
    have HB1 := Lib.hid (HB0.out.trans (hb1.mono HB0.out.size))
    clear h hb1
    go_wp2
    go_ret
    refine ⟨ret_bool rfl, ?_⟩
    exact (HB1.out.alloc HB1.out.size _)
  · have HP := Lib.hid hp
    have HB0 := Lib.hid hb0
    clear hp hb0
    go_enter Try.func102, Try.ntmps102
    go_wp2_with fail
    refine (semParse_any s _ hm0 hs).mono ?_
    rintro e w1 h
    obtain ⟨pv, rfl, hpv, hb1⟩ := semPost_some h HP.out
    obtain ⟨a, cap, rfl, hc⟩ := hpv
    have HB1 := Lib.hid (HB0.out.trans (hb1.mono HB0.out.size))
    clear h hb1 hc
    go_wp2
    go_ret
    refine ⟨ret_bool rfl, ?_⟩
    exact (HB1.out.alloc HB1.out.size _)

theorem getD_of {l : List V.Bs} {k : Nat} (h : k < l.length) : l.getD k [] = l[k] := by simp [List.getD, List.getElem?_eq_getElem h]
end Go.Proofs.Ytoiabbhppbghdaa

/-
  Walks: package version, numbers compared, keys of numbers, identifiers compared.
-/
import Derived.Test.YtabeblbhbekjaaaGreatDoorV2
namespace Go.Proofs.YtabeblbhbekjaaaGreatDoor
open Go.RowKit

set_option maxRecDepth 100000 in
set_option maxHeartbeats 400000 in
theorem numbers_any (s t : ByteArray) (w : World) :
    Calls Tryz.prog 96 #[.string s, .string t] w fun e w' => e = .returned (.int .i64 (V.numbers s.data.toList t.data.toList)) ∧ Below w.heap.size w w' := by
  have HF : Hid (V.numbers s.data.toList t.data.toList = V.orI [Lib.compareInt (V.value s.data.toList).length (V.value t.data.toList).length, Lib.compareBytes (V.value s.data.toList) (V.value t.data.toList)]) := Lib.hid (by
    unfold V.numbers V.orI V.orI V.orI V.cor; split <;> simp)
  go_enter Tryz.func96, Tryz.ntmps96
  go_wp2_with fail
  refine (value_any s _).mono ?_
  rintro e w' ⟨rfl, rfl⟩
  go_wp2_with fail
  refine (value_any t _).mono ?_
  rintro e w' ⟨rfl, rfl⟩
  generalize V.value s.data.toList = x at *
  generalize V.value t.data.toList = y at *
  go_wp2_with fail
  refine (Tryz.cmp_Compare_int _ _ _).mono ?_
  rintro e w' ⟨rfl, rfl⟩
  go_wp2_with fail
  refine (Tryz.strings_Compare _ _ _).mono ?_
  rintro e w' ⟨rfl, rfl⟩
  go_wp2_with fail
  generalize Lib.compareInt _ _ = p at *
  generalize Lib.compareBytes _ _ = q at *
  refine (or_any _ [p, q] _ (by simp) ?_).mono ?_
  · intro j hj
    rw [World.cell?_alloc_new]
    have : j = 0 ∨ j = 1 := by simp at hj; omega
    rcases this with rfl | rfl <;> rfl
  rintro e w' ⟨rfl, rfl⟩
  go_wp2
  go_ret
  exact ⟨ret_int HF.out.symm, (Below.refl _ _).alloc (Nat.le_refl _) _⟩

set_option maxRecDepth 100000 in
set_option maxHeartbeats 800000 in
theorem identifier_any (s t : ByteArray) (w : World) (hs : s.size ≤ maxLen) (ht : t.size ≤ maxLen) :
    Calls Tryz.prog 99 #[.string s, .string t] w fun e w' => e = .returned (.int .i64 (V.identC s.data.toList t.data.toList)) ∧ Below w.heap.size w w' := by
  have HF : Hid (V.identC s.data.toList t.data.toList = if V.digits s.data.toList && V.digits t.data.toList then V.numbers s.data.toList t.data.toList else if V.digits s.data.toList then -1 else if V.digits t.data.toList then 1 else Lib.compareBytes s.data.toList t.data.toList) := rfl
  rcases hx : V.digits s.data.toList with _ | _ <;> rcases hy : V.digits t.data.toList with _ | _
  all_goals
    have HX := Lib.hid hx
    have HY := Lib.hid hy
    clear hx hy
    rw [HX.out, HY.out] at HF
    go_enter Tryz.func99, Tryz.ntmps99
    go_wp2_with fail
    refine (only_digit s _ hs).mono ?_
    rintro e w' ⟨rfl, rfl⟩
    simp only [HX.out]
    go_wp2_with fail
    refine (only_digit t _ ht).mono ?_
    rintro e w' ⟨rfl, rfl⟩
    simp only [HY.out]
    go_wp2_with fail
  · refine (Tryz.strings_Compare _ _ _).mono ?_
    rintro e w' ⟨rfl, rfl⟩
    go_wp2
    go_ret
    exact ⟨ret_int HF.out.symm, Below.refl _ _⟩
  · go_ret
    exact ⟨ret_int HF.out.symm, Below.refl _ _⟩
  · go_ret
    exact ⟨ret_int HF.out.symm, Below.refl _ _⟩
  · refine (numbers_any _ _ _).mono ?_
    rintro e w' ⟨rfl, hb⟩
    go_wp2
    go_ret
    exact ⟨ret_int HF.out.symm, hb⟩

def szOf : Value → Nat
  | .string s => s.size
  | _ => 0

theorem arr_list (l : V.Bs) : l.toArray.toList = l := by simp
end Go.Proofs.YtabeblbhbekjaaaGreatDoor

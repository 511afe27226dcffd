/-
  Walks: versions of a scheme valid.
-/
import Derived.Test.YtoiabbhppbghdaaC0
import Derived.Test.YtoiabbhppbghdaaD0
import Derived.Test.YtoiabbhppbghdaaL4
namespace Go.Proofs.Ytoiabbhppbghdaa
open Go.RowKit

theorem meth_valid1 (k : Nat) (w : World) : (method (k + 1) 120 (.agg #[]) "admission/version.valid").run Try.prog w = .ok (102, .agg #[]) w := by kernel_rfl
theorem meth_valid2 (k : Nat) (w : World) : (method (k + 1) 121 (.agg #[]) "admission/version.valid").run Try.prog w = .ok (124, .agg #[]) w := by kernel_rfl
theorem meth_valid3 (k : Nat) (w : World) : (method (k + 1) 122 (.agg #[]) "admission/version.valid").run Try.prog w = .ok (132, .agg #[]) w := by kernel_rfl
set_option maxHeartbeats 400000 in
theorem of1_any (w : World) : Calls Try.prog 57 #[.int .i64 1] w fun e w' => e = .returned (.iface 120 (.agg #[])) ∧ w = w' := by
  go_enter Try.func57, Try.ntmps57
  go_wp2
  go_ret
  exact ⟨rfl, rfl⟩

set_option maxHeartbeats 400000 in
theorem of2_any (w : World) : Calls Try.prog 57 #[.int .i64 2] w fun e w' => e = .returned (.iface 121 (.agg #[])) ∧ w = w' := by
  go_enter Try.func57, Try.ntmps57
  go_wp2
  go_ret
  exact ⟨rfl, rfl⟩

set_option maxHeartbeats 400000 in
theorem of3_any (w : World) : Calls Try.prog 57 #[.int .i64 3] w fun e w' => e = .returned (.iface 122 (.agg #[])) ∧ w = w' := by
  go_enter Try.func57, Try.ntmps57
  go_wp2
  go_ret
  exact ⟨rfl, rfl⟩

set_option maxHeartbeats 400000 in
theorem of0_any (n : Int) (h1 : n ≠ 1) (h2 : n ≠ 2) (h3 : n ≠ 3) (w : World) : Calls Try.prog 57 #[.int .i64 n] w fun e w' => e = .returned .nilIface ∧ w = w' := by
  have b1 : (n == 1) = false := by simpa using h1
  have b2 : (n == 2) = false := by simpa using h2
  have b3 : (n == 3) = false := by simpa using h3
  go_enter Try.func57, Try.ntmps57
  go_wp2
  go_ret
  exact ⟨rfl, rfl⟩

set_option maxRecDepth 100000 in
set_option maxHeartbeats 1600000 in
theorem valid1_any (s : ByteArray) (w : World) (hm : MaxOk w) (hs : s.size ≤ maxLen) :
    Calls Try.prog 52 #[.int .i64 1, .string s] w fun e w' => e = .returned (.bool (V.valid 1 s.data.toList)) ∧ Below w.heap.size w w' := by
  unfold maxLen at hs
  have hmeth := meth_valid1
  by_cases h1 : 1 ≤ s.size
  · have b1 : (1 : Int) ≤ (s.size : Int) := by omega
    by_cases h2 : s.size ≤ 64
    · have HF : Hid (V.valid 1 s.data.toList = (V.semParse s.data.toList).isSome) := Lib.hid (by unfold V.valid V.schOk; rw [bs_size]; simp [h1, h2])
      have b2 : (s.size : Int) ≤ 64 := by omega
      go_enter Try.func52, Try.ntmps52
      go_wp2_with fail
      refine (of1_any _).mono ?_
      rintro e w' ⟨rfl, rfl⟩
      go_wp2_with fail
      refine (semValid_any s _ hm (by omega)).mono ?_
      rintro e w1 ⟨rfl, hb⟩
      go_wp2
      go_ret
      exact ⟨ret_bool (by rw [HF.out]), hb⟩
    · have HF : Hid (V.valid 1 s.data.toList = false) := Lib.hid (by unfold V.valid; rw [bs_size]; simp [h2])
      have b2 : ¬ (s.size : Int) ≤ 64 := by omega
      go_enter Try.func52, Try.ntmps52
      go_wp2_with fail
      refine (of1_any _).mono ?_
      rintro e w' ⟨rfl, rfl⟩
      go_wp2
      go_ret
      exact ⟨ret_bool HF.out.symm, Below.refl _ _⟩
  · have HF : Hid (V.valid 1 s.data.toList = false) := Lib.hid (by unfold V.valid; rw [bs_size]; simp [h1])
    have b1 : ¬ (1 : Int) ≤ (s.size : Int) := by omega
    go_enter Try.func52, Try.ntmps52
    go_wp2_with fail
    refine (of1_any _).mono ?_
    rintro e w' ⟨rfl, rfl⟩
    go_wp2
    go_ret
    exact ⟨ret_bool HF.out.symm, Below.refl _ _⟩

set_option maxRecDepth 100000 in
set_option maxHeartbeats 1600000 in
theorem valid2_any (s : ByteArray) (w : World) (hm : MaxOk w) (hs : s.size ≤ maxLen) :
    Calls Try.prog 52 #[.int .i64 2, .string s] w fun e w' => e = .returned (.bool (V.valid 2 s.data.toList)) ∧ Below w.heap.size w w' := by
  unfold maxLen at hs
  have hmeth := meth_valid2
  by_cases h1 : 1 ≤ s.size
  · have b1 : (1 : Int) ≤ (s.size : Int) := by omega
    by_cases h2 : s.size ≤ 64
    · have HF : Hid (V.valid 2 s.data.toList = (V.debParse s.data.toList).isSome) := Lib.hid (by unfold V.valid V.schOk; rw [bs_size]; simp [h1, h2])
      have b2 : (s.size : Int) ≤ 64 := by omega
      go_enter Try.func52, Try.ntmps52
      go_wp2_with fail
      refine (of2_any _).mono ?_
      rintro e w' ⟨rfl, rfl⟩
      go_wp2_with fail
      refine (debValid_any s _ hm (by omega)).mono ?_
      rintro e w1 ⟨rfl, hb⟩
      go_wp2
      go_ret
      exact ⟨ret_bool (by rw [HF.out]), hb⟩
    · have HF : Hid (V.valid 2 s.data.toList = false) := Lib.hid (by unfold V.valid; rw [bs_size]; simp [h2])
      have b2 : ¬ (s.size : Int) ≤ 64 := by omega
      go_enter Try.func52, Try.ntmps52
      go_wp2_with fail
      refine (of2_any _).mono ?_
      rintro e w' ⟨rfl, rfl⟩
      go_wp2
      go_ret
      exact ⟨ret_bool HF.out.symm, Below.refl _ _⟩
  · have HF : Hid (V.valid 2 s.data.toList = false) := Lib.hid (by unfold V.valid; rw [bs_size]; simp [h1])
    have b1 : ¬ (1 : Int) ≤ (s.size : Int) := by omega
    go_enter Try.func52, Try.ntmps52
    go_wp2_with fail
    refine (of2_any _).mono ?_
    rintro e w' ⟨rfl, rfl⟩
    go_wp2
    go_ret
    exact ⟨ret_bool HF.out.symm, Below.refl _ _⟩

set_option maxRecDepth 100000 in
set_option maxHeartbeats 1600000 in
theorem valid3_any (s : ByteArray) (w : World) (hm : MaxOk w) (hs : s.size ≤ maxLen) :
    Calls Try.prog 52 #[.int .i64 3, .string s] w fun e w' => e = .returned (.bool (V.valid 3 s.data.toList)) ∧ Below w.heap.size w w' := by
  unfold maxLen at hs
  have hmeth := meth_valid3
  by_cases h1 : 1 ≤ s.size
  · have b1 : (1 : Int) ≤ (s.size : Int) := by omega
    by_cases h2 : s.size ≤ 64
    · have HF : Hid (V.valid 3 s.data.toList = V.dotOk s.data.toList) := Lib.hid (by unfold V.valid V.schOk; rw [bs_size]; simp [h1, h2])
      have b2 : (s.size : Int) ≤ 64 := by omega
      go_enter Try.func52, Try.ntmps52
      go_wp2_with fail
      refine (of3_any _).mono ?_
      rintro e w' ⟨rfl, rfl⟩
      go_wp2_with fail
      refine (dotValid_any s _ (by unfold maxLen; omega)).mono ?_
      rintro e w1 ⟨rfl, hb⟩
      go_wp2
      go_ret
      exact ⟨ret_bool (by rw [HF.out]), hb⟩
    · have HF : Hid (V.valid 3 s.data.toList = false) := Lib.hid (by unfold V.valid; rw [bs_size]; simp [h2])
      have b2 : ¬ (s.size : Int) ≤ 64 := by omega
      go_enter Try.func52, Try.ntmps52
      go_wp2_with fail
      refine (of3_any _).mono ?_
      rintro e w' ⟨rfl, rfl⟩
      go_wp2
      go_ret
      exact ⟨ret_bool HF.out.symm, Below.refl _ _⟩
  · have HF : Hid (V.valid 3 s.data.toList = false) := Lib.hid (by unfold V.valid; rw [bs_size]; simp [h1])
    have b1 : ¬ (1 : Int) ≤ (s.size : Int) := by omega
    go_enter Try.func52, Try.ntmps52
    go_wp2_with fail
    refine (of3_any _).mono ?_
    rintro e w' ⟨rfl, rfl⟩
    go_wp2
    go_ret
    exact ⟨ret_bool HF.out.symm, Below.refl _ _⟩

set_option maxRecDepth 100000 in
set_option maxHeartbeats 1600000 in
theorem valid0_any (n : Int) (h1 : n ≠ 1) (h2 : n ≠ 2) (h3 : n ≠ 3) (s : ByteArray) (w : World) :
    Calls Try.prog 52 #[.int .i64 n, .string s] w fun e w' => e = .returned (.bool (V.valid n s.data.toList)) ∧ Below w.heap.size w w' := by
  have HF : Hid (V.valid n s.data.toList = false) := Lib.hid (by unfold V.valid V.schOk; simp [h1, h2, h3])
  go_enter Try.func52, Try.ntmps52
  go_wp2_with fail
  refine (of0_any n h1 h2 h3 _).mono ?_
  rintro e w' ⟨rfl, rfl⟩
  go_wp2
  go_ret
  exact ⟨ret_bool HF.out.symm, Below.refl _ _⟩

theorem valid_any (n : Int) (s : ByteArray) (w : World) (hm : MaxOk w) (hs : s.size ≤ maxLen) :
    Calls Try.prog 52 #[.int .i64 n, .string s] w fun e w' => e = .returned (.bool (V.valid n s.data.toList)) ∧ Below w.heap.size w w' := by
  by_cases h1 : n = 1
  · subst h1; exact valid1_any s w hm hs
  · by_cases h2 : n = 2
    · subst h2; exact valid2_any s w hm hs
    · by_cases h3 : n = 3
      · subst h3; exact valid3_any s w hm hs
      · exact valid0_any n h1 h2 h3 s w
end Go.Proofs.Ytoiabbhppbghdaa

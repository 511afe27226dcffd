/-
  Walks: the sanity check of layer 6.
  Walk: one of the schemes, for any number.
-/
import Derived.Test.YtabeblbhbekjaaaGreatDoorE3
import Derived.Test.YtabeblbhbekjaaaGreatDoorK
import Derived.Test.YtabeblbhbekjaaaGreatDoorP3
namespace Go.Proofs.YtabeblbhbekjaaaGreatDoor
open Go.RowKit

theorem aw1 : V.compareR 1 (ByteArray.mk #[49, 46, 48, 46, 48, 45, 114, 99, 46, 49]).data.toList (ByteArray.mk #[49, 46, 48, 46, 48]).data.toList = (-1, 0) := by decide +kernel
theorem aw2 : V.compareR 2 (ByteArray.mk #[49, 46, 48, 126, 114, 99, 49]).data.toList (ByteArray.mk #[49, 46, 48]).data.toList = (-1, 0) := by decide +kernel
theorem aw3 : V.compareR 3 (ByteArray.mk #[49, 46, 50]).data.toList (ByteArray.mk #[49, 46, 49, 48]).data.toList = (-1, 0) := by decide +kernel

theorem compare_at (n : Int) (s t : ByteArray) (c k : Int) (h : V.compareR n s.data.toList t.data.toList = (c, k)) (w : World) (hm : MaxOk w) (hs : s.size ≤ maxLen) (ht : t.size ≤ maxLen) :
    Calls Tryz.prog 25 #[.int .i64 n, .string s, .string t] w fun e w' => e = .returned (.tuple #[.int .i64 c, .int .i64 k]) ∧ Below w.heap.size w w' := by
  have := compare_any n s t w hm hs ht
  rw [h] at this
  exact this

set_option maxRecDepth 100000 in
set_option maxHeartbeats 800000 in
theorem awake_any (w : World) (hm : MaxOk w) :
    Calls Tryz.prog 10 #[] w fun e w' => e = .returned (.bool true) ∧ Below w.heap.size w w' := by
  have HM := Lib.hid hm
  clear hm
  go_enter Tryz.func10, Tryz.ntmps10
  go_wp2_with fail
  refine (compare_at 1 _ _ _ _ aw1 _ HM.out (by decide) (by decide)).mono ?_
  rintro e w1 ⟨rfl, hb1⟩
  have HB1 := Lib.hid hb1
  clear hb1
  go_wp2_with fail
  refine (compare_at 2 _ _ _ _ aw2 _ (HM.out.below HB1.out) (by decide) (by decide)).mono ?_
  rintro e w2 ⟨rfl, hb2⟩
  have HB2 := Lib.hid (HB1.out.trans (hb2.mono HB1.out.size))
  clear hb2
  go_wp2_with fail
  refine (compare_at 3 _ _ _ _ aw3 _ (HM.out.below HB2.out) (by decide) (by decide)).mono ?_
  rintro e w3 ⟨rfl, hb3⟩
  have HB3 := Lib.hid (HB2.out.trans (hb3.mono HB2.out.size))
  clear hb3
  go_wp2
  go_ret
  exact ⟨ret_bool rfl, HB3.out⟩
end Go.Proofs.YtabeblbhbekjaaaGreatDoor
namespace Go.Proofs.YtabeblbhbekjaaaGreatDoor
open Go.RowKit

/-- one of the schemes -/
def schemeOf (n : Int) : Int := 1 + (n.tmod 3 + 3) % 3

theorem schemeOf_is (n : Int) : schemeOf n = 1 ∨ schemeOf n = 2 ∨ schemeOf n = 3 := by unfold schemeOf; omega

set_option maxHeartbeats 800000 in
theorem scheme_any (n : Int) (w : World) (hn : (Lit.int .i64 n).wf = true) :
    Calls Tryz.prog 6 #[.int .i64 n] w fun e w' => e = .returned (.int .i64 (schemeOf n)) ∧ w = w' := by
  have hzb : -9223372036854775808 ≤ n ∧ n ≤ 9223372036854775807 := by simpa [Lit.wf, IntKind.min, IntKind.max, IntKind.signed, IntKind.bits] using hn
  obtain ⟨hz1, hz2⟩ := hzb
  have ht1 : -2 ≤ n.tmod 3 := by have := Int.lt_tmod_of_pos n (show (0 : Int) < 3 by decide); omega
  have ht2 : n.tmod 3 ≤ 2 := by have := Int.tmod_lt_of_pos n (show (0 : Int) < 3 by decide); omega
  have hzp : 0 ≤ n.tmod 3 + 3 := by omega
  clear hn
  go_enter Tryz.func6, Tryz.ntmps6
  go_wp2
  go_ret
  exact ⟨ret_int (by unfold schemeOf; omega), rfl⟩

theorem schemeOf_ok (n : Int) : V.scheme (schemeOf n) = true := by
  unfold V.scheme
  rcases schemeOf_is n with h | h | h <;> rw [h] <;> decide
end Go.Proofs.YtabeblbhbekjaaaGreatDoor

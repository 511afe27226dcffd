/-
  Walks: the sanity check of layer 6.
-/
import Derived.Test.YtabeblbhbekjaaaE3
namespace Go.Proofs.Ytabeblbhbekjaaa
open Go.RowKit

theorem aw1 : V.compareR 1 (ByteArray.mk #[49, 46, 48, 46, 48, 45, 114, 99, 46, 49]).data.toList (ByteArray.mk #[49, 46, 48, 46, 48]).data.toList = (-1, 0) := by decide +kernel
theorem aw2 : V.compareR 2 (ByteArray.mk #[49, 46, 48, 126, 114, 99, 49]).data.toList (ByteArray.mk #[49, 46, 48]).data.toList = (-1, 0) := by decide +kernel
theorem aw3 : V.compareR 3 (ByteArray.mk #[49, 46, 50]).data.toList (ByteArray.mk #[49, 46, 49, 48]).data.toList = (-1, 0) := by decide +kernel

theorem compare_at (n : Int) (s t : ByteArray) (c k : Int) (h : V.compareR n s.data.toList t.data.toList = (c, k)) (w : World) (hm : MaxOk w) (hs : s.size ≤ maxLen) (ht : t.size ≤ maxLen) :
    Calls Try.prog 5 #[.int .i64 n, .string s, .string t] w fun e w' => e = .returned (.tuple #[.int .i64 c, .int .i64 k]) ∧ Below w.heap.size w w' := by
  have := compare_any n s t w hm hs ht
  rw [h] at this
  exact this

set_option maxRecDepth 100000 in
set_option maxHeartbeats 800000 in
theorem awake_any (w : World) (hm : MaxOk w) :
    Calls Try.prog 6 #[] w fun e w' => e = .returned (.bool true) ∧ Below w.heap.size w w' := by
  have HM := Lib.hid hm
  clear hm
  go_enter Try.func6, Try.ntmps6
  go_wp2_with fail
  refine (compare_at 1 _ _ _ _ aw1 _ HM.out (by decide) (by decide)).mono ?_
  rintro e w1 ⟨rfl, hb1⟩
  have HB1 := Lib.hid hb1
  clear hb1
  go_wp2_with fail
  refine (compare_at 2 _ _ _ _ aw2 _ (HM.out.below HB1.out) (by decide) (by decide)).mono ?_
  rintro e w2 ⟨rfl, hb2⟩
  have HB2 := Lib.hid (HB1.out.trans (hb2.mono HB1.out.size))
  clear hb2
  go_wp2_with fail
  refine (compare_at 3 _ _ _ _ aw3 _ (HM.out.below HB2.out) (by decide) (by decide)).mono ?_
  rintro e w3 ⟨rfl, hb3⟩
  have HB3 := Lib.hid (HB2.out.trans (hb3.mono HB2.out.size))
  clear hb3
  go_wp2
  go_ret
  exact ⟨ret_bool rfl, HB3.out⟩
end Go.Proofs.Ytabeblbhbekjaaa

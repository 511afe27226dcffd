/-
  Walk: the law VersionValid.
-/
import Derived.Test.YtabeblbhbekjaaaDoorR6
import Derived.Test.YtabeblbhbekjaaaDoorF1
namespace Go.Proofs.YtabeblbhbekjaaaDoor
open Go.RowKit

/-- one of the schemes -/
def schemeOf (n : Int) : Int := 1 + (n.tmod 3 + 3) % 3

theorem schemeOf_is (n : Int) : schemeOf n = 1 ∨ schemeOf n = 2 ∨ schemeOf n = 3 := by unfold schemeOf; omega

set_option maxHeartbeats 800000 in
theorem scheme_any (n : Int) (w : World) (hn : (Lit.int .i64 n).wf = true) :
    Calls Tryd.prog 9 #[.int .i64 n] w fun e w' => e = .returned (.int .i64 (schemeOf n)) ∧ w = w' := by
  have hzb : -9223372036854775808 ≤ n ∧ n ≤ 9223372036854775807 := by simpa [Lit.wf, IntKind.min, IntKind.max, IntKind.signed, IntKind.bits] using hn
  obtain ⟨hz1, hz2⟩ := hzb
  have ht1 : -2 ≤ n.tmod 3 := by have := Int.lt_tmod_of_pos n (show (0 : Int) < 3 by decide); omega
  have ht2 : n.tmod 3 ≤ 2 := by have := Int.tmod_lt_of_pos n (show (0 : Int) < 3 by decide); omega
  have hzp : 0 ≤ n.tmod 3 + 3 := by omega
  clear hn
  go_enter Tryd.func9, Tryd.ntmps9
  go_wp2
  go_ret
  exact ⟨ret_int (by unfold schemeOf; omega), rfl⟩

set_option maxRecDepth 100000 in
set_option maxHeartbeats 1600000 in
theorem versionValid_any (n : Int) (s : ByteArray) (w : World) (hm : MaxOk w) (hs : s.size ≤ maxLen) (hn : (Lit.int .i64 n).wf = true) :
    Calls Tryd.prog 3 #[.int .i64 n, .string s] w fun e w' => e = .returned (.bool true) ∧ Below w.heap.size w w' := by
  have hzb : -9223372036854775808 ≤ n ∧ n ≤ 9223372036854775807 := by simpa [Lit.wf, IntKind.min, IntKind.max, IntKind.signed, IntKind.bits] using hn
  obtain ⟨hz1, hz2⟩ := hzb
  have HM := Lib.hid hm
  have HNW := Lib.hid hn
  have hs' := Lib.hid hs
  unfold maxLen at hs
  clear hm hn
  by_cases hgt : 300 < s.size
  · go_enter Tryd.func3, Tryd.ntmps3
    go_wp2
    go_ret
    exact ⟨ret_bool rfl, Below.refl _ _⟩
  · have hle : s.size ≤ 300 := by omega
    clear hgt
    go_enter Tryd.func3, Tryd.ntmps3
    go_wp2_with fail
    refine (awake_any _ HM.out).mono ?_
    rintro e w1 ⟨rfl, hb1⟩
    have HB1 := Lib.hid hb1
    clear hb1
    go_wp2_with fail
    refine (valid_any _ s _ (HM.out.below HB1.out) hs'.out).mono ?_
    rintro e w2 ⟨rfl, hb2⟩
    have HB2 := Lib.hid (HB1.out.trans (hb2.mono HB1.out.size))
    clear hb2
    go_wp2_with fail
    refine (rvalid_any _ s _ (HM.out.below HB2.out) hs'.out).mono ?_
    rintro e w3 ⟨rfl, hb3⟩
    have HB3 := Lib.hid (HB2.out.trans (hb3.mono HB2.out.size))
    clear hb3
    go_wp2_with fail
    refine (scheme_any n _ HNW.out).mono ?_
    rintro e w' ⟨rfl, rfl⟩
    go_wp2_with fail
    refine (valid_any _ s _ (HM.out.below HB3.out) hs'.out).mono ?_
    rintro e w4 ⟨rfl, hb4⟩
    have HB4 := Lib.hid (HB3.out.trans (hb4.mono HB3.out.size))
    clear hb4
    go_wp2_with fail
    refine (scheme_any n _ HNW.out).mono ?_
    rintro e w' ⟨rfl, rfl⟩
    go_wp2_with fail
    refine (rvalid_any _ s _ (HM.out.below HB4.out) hs'.out).mono ?_
    rintro e w5 ⟨rfl, hb5⟩
    have HB5 := Lib.hid (HB4.out.trans (hb5.mono HB4.out.size))
    clear hb5
    go_wp2
    go_ret
    exact ⟨ret_bool rfl, HB5.out⟩
end Go.Proofs.YtabeblbhbekjaaaDoor

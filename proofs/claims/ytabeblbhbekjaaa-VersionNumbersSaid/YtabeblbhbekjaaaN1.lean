/-
  Walk: the law VersionNumbers.
-/
import Derived.Test.YtabeblbhbekjaaaF1
import Derived.Test.YtabeblbhbekjaaaP4
import Derived.Test.YtabeblbhbekjaaaY0
namespace Go.Proofs.Ytabeblbhbekjaaa
open Go.RowKit

theorem catB (a b : V.Bs) : (ByteArray.mk a.toArray ++ ByteArray.mk b.toArray) = ByteArray.mk (a ++ b).toArray := bs_ext (by simp)

theorem dig_of {x : Int} (h0 : 0 ≤ x) (h1 : x ≤ 9) : V.dig (UInt8.ofNat (48 + x).toNat) = true := by
  unfold V.dig V.digB
  rw [UInt8.toNat_ofNat']
  have : (48 + x).toNat % 2 ^ 8 = (48 + x).toNat := Nat.mod_eq_of_lt (by omega)
  rw [this]; simp; omega

set_option maxRecDepth 100000 in
set_option maxHeartbeats 3200000 in
theorem versionNumbers_any (a : Option Addr) (n cap : Nat) (zs : Int) (w : World) (hm : MaxOk w) (hn : n ≤ maxLen) (hz : (Lit.int .i64 zs).wf = true)
    (hc : ∀ j, j < n → ∃ b off x, a = some ⟨b, off, none⟩ ∧ b < w.heap.size ∧ w.cell? ⟨b, off + j, none⟩ = some (.int .u8 x) ∧ 0 ≤ x ∧ x ≤ 255) :
    Calls Try.prog 3 #[.slice a n cap, .int .i64 zs] w fun e w' => e = .returned (.bool true) ∧ Below w.heap.size w w' := by
  have hzb : -9223372036854775808 ≤ zs ∧ zs ≤ 9223372036854775807 := by simpa [Lit.wf, IntKind.min, IntKind.max, IntKind.signed, IntKind.bits] using hz
  obtain ⟨hz1, hz2⟩ := hzb
  have ht1 : -19 ≤ zs.tmod 20 := by have := Int.lt_tmod_of_pos zs (show (0 : Int) < 20 by decide); omega
  have ht2 : zs.tmod 20 ≤ 19 := by have := Int.tmod_lt_of_pos zs (show (0 : Int) < 20 by decide); omega
  unfold maxLen at hn
  have HC := Lib.hid hc
  have HM := Lib.hid hm
  have hcv := conv_one
  clear hc hm hz
  go_enter Try.func3, Try.ntmps3
  go_wp2
  go_loopw [5, 6] (fun v i wr => ∃ (k : Nat) (l : V.Bs), k ≤ n ∧ k ≤ 30 ∧ i = .int .i64 k ∧ v = .string ⟨l.toArray⟩ ∧ V.Num l ∧ l.length = k + 1 ∧ Below w.heap.size w wr) (fun _ i _ => 30 - (intOf i).toNat)
  case atStart => exact ⟨0, [49], Nat.zero_le _, Nat.zero_le _, rfl, rfl, V.Num.first, rfl, Below.refl _ _⟩
  case round =>
    obtain ⟨k, l, hk, hk30, rfl, rfl, hnum, hlen, hB⟩ := hrel
    have HB := Lib.hid hB
    have HN := Lib.hid hnum
    have hll : l.length ≤ 31 := by omega
    have HLEN := Lib.hid hlen
    clear hB hnum hlen
    by_cases hgo : k < n ∧ k < 30
    · obtain ⟨hlt, h30⟩ := hgo
      obtain ⟨b, off, x, rfl, hb, hcell, hx0, hx1⟩ := HC.out k hlt
      have hx := (HB.out.cell (p := ⟨b, off + k, none⟩) hb).trans hcell
      have HD : Hid (V.dig (UInt8.ofNat (48 + x % 10).toNat) = true) := Lib.hid (dig_of (by omega) (by omega))
      clear hcell
      go_wp2
      go_roundw
      case rel =>
        exact ⟨k + 1, l ++ [UInt8.ofNat (48 + x % 10).toNat], by omega, by omega, by go_num, congrArg Value.string (catB l [UInt8.ofNat (48 + x % 10).toNat]), HN.out.snoc HD.out, by rw [List.length_append, HLEN.out]; rfl, HB.out.alloc HB.out.size _⟩
      case measure => simp [intOf]; omega
    · have hstop : (¬ k < n) ∨ (k < n ∧ ¬ k < 30) := by omega
      obtain ⟨z, hzz⟩ : ∃ z : Nat, (zs.tmod 20 + 20) % 20 = z := ⟨((zs.tmod 20 + 20) % 20).toNat, by omega⟩
      have hz20 : z ≤ 20 := by omega
      have HZ := Lib.hid hzz
      have HLAW := Lib.hid (V.numbers_law HN.out z hz20 hll)
      have hzp : 0 ≤ zs.tmod 20 + 20 := by omega
      clear hgo hzz
      rcases hstop with h1 | ⟨h1, h2⟩
      all_goals
        go_wp2
        go_loop [7, 8] (fun v i => ∃ j : Nat, j ≤ z ∧ i = .int .i64 j ∧ v = .string ⟨(List.replicate j 48 ++ l).toArray⟩) (fun _ i => z - (intOf i).toNat)
        case atStart => exact ⟨0, Nat.zero_le _, rfl, rfl⟩
        case round =>
          obtain ⟨j, hj, rfl, rfl⟩ := hrel
          by_cases hjz : j < z
          · have ht : (j : Int) < (zs.tmod 20 + 20) % 20 := by rw [HZ.out]; omega
            have ht2' : (j : Int) < zs.tmod 20 % 20 := by have := HZ.out; omega
            go_wp2
            go_round
            case rel =>
              refine ⟨j + 1, by omega, by go_num, congrArg Value.string ?_⟩
              rw [List.replicate_succ]
              exact catB [48] (List.replicate j 48 ++ l)
            case measure => simp [intOf]; omega
          · have ht : ¬ (j : Int) < (zs.tmod 20 + 20) % 20 := by rw [HZ.out]; omega
            have ht2' : ¬ (j : Int) < zs.tmod 20 % 20 := by have := HZ.out; omega
            obtain rfl : j = z := by omega
            have HMr := Lib.hid (HM.out.below HB.out)
            go_wp2_with fail
            refine (compare_at 3 _ _ 0 0 (by simpa using HLAW.out.1) _ HMr.out (by unfold maxLen; simp [ByteArray.size]; omega) (by unfold maxLen; simp [ByteArray.size]; omega)).mono ?_
            rintro e w1 ⟨rfl, hb1⟩
            have HB1 := Lib.hid hb1
            clear hb1
            go_wp2_with fail
            refine (compare_at 3 _ _ (-1) 0 (by simpa using HLAW.out.2.1) _ (HMr.out.below HB1.out) (by unfold maxLen; simp [ByteArray.size]; omega) (by unfold maxLen; simp [ByteArray.size]; omega)).mono ?_
            rintro e w2 ⟨rfl, hb2⟩
            have HB2 := Lib.hid (HB1.out.trans (hb2.mono HB1.out.size))
            clear hb2
            go_wp2_with fail
            refine (compare_at 2 _ _ 0 0 (by simpa using HLAW.out.2.2.1) _ (HMr.out.below HB2.out) (by unfold maxLen; simp [ByteArray.size]; omega) (by unfold maxLen; simp [ByteArray.size]; omega)).mono ?_
            rintro e w3 ⟨rfl, hb3⟩
            have HB3 := Lib.hid (HB2.out.trans (hb3.mono HB2.out.size))
            clear hb3
            go_wp2_with fail
            refine (compare_at 1 _ _ (-1) 0 (by simpa using HLAW.out.2.2.2) _ (HMr.out.below HB3.out) (by unfold maxLen; simp [ByteArray.size]; omega) (by unfold maxLen; simp [ByteArray.size]; omega)).mono ?_
            rintro e w4 ⟨rfl, hb4⟩
            have HB4 := Lib.hid (HB3.out.trans (hb4.mono HB3.out.size))
            clear hb4
            go_wp2_with fail
            refine (awake_any _ (HMr.out.below HB4.out)).mono ?_
            rintro e w5 ⟨rfl, hb5⟩
            have HB5 := Lib.hid (HB4.out.trans (hb5.mono HB4.out.size))
            clear hb5
            go_wp2
            go_ret
            exact ⟨ret_bool rfl, HB.out.trans (HB5.out.mono HB.out.size)⟩
end Go.Proofs.Ytabeblbhbekjaaa

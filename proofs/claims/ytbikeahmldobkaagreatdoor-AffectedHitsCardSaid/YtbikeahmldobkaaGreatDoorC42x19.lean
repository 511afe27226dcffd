/-
  Lemmas for the law.
-/
import Derived.Test.YtbikeahmldobkaaGreatDoorC42x18
import Derived.Test.YtbikeahmldobkaaGreatDoorC42x17
import Derived.Test.YtbikeahmldobkaaGreatDoorC42x04
import Derived.Test.YtbikeahmldobkaaGreatDoorC42x13
import Derived.Test.YtbikeahmldobkaaGreatDoorC42x14
import Derived.Test.YtbikeahmldobkaaGreatDoorC42x03
set_option linter.all false
set_option maxRecDepth 100000
set_option maxHeartbeats 3200000
namespace Go.Proofs.YtbikeahmldobkaaGreatDoor
open Go.RowKit
theorem zwc {P : Prop} (h : P := by
 have f4 : ¬ (s[k].toNat : Int) = 46 := by omega
 have f5 : ((s[k].toNat : Int) == 46) = false := by rw [zv6]; omega
 have f6 : ¬ (s[k].toNat : Int) = 95 := by omega
 have f7 : ((s[k].toNat : Int) == 95) = false := by rw [zv6]; omega
 have f8 : ¬ (s[k].toNat : Int) = 45 := by omega
 have f9 : ((s[k].toNat : Int) == 45) = false := by rw [zv6]; omega
 clear hc HNO HST
 go_wp2
 go_ret
 exact ⟨zf HP.out.symm, rfl⟩) : P := h
theorem zwj {P : Prop} (h : P := by
 have f4 : ¬ (s[k].toNat : Int) = 46 := by omega
 have f5 : ((s[k].toNat : Int) == 46) = false := by rw [zv6]; omega
 have f6 : ¬ (s[k].toNat : Int) = 95 := by omega
 have f7 : ((s[k].toNat : Int) == 95) = false := by rw [zv6]; omega
 have f8 : ¬ (s[k].toNat : Int) = 45 := by omega
 have f9 : ((s[k].toNat : Int) == 45) = false := by rw [zv6]; omega
 clear hc HNO HST
 go_wp2
 go_round
 case rel => exact ⟨k + 1, by omega, by go_num, HY.out⟩
 case measure => simp [intOf]; omega) : P := h
theorem zwk {P : Prop} (h : P := by
 clear hc HNO HST
 go_wp2
 go_round
 case rel => exact ⟨k + 1, by omega, by go_num, HY.out⟩
 case measure => simp [intOf]; omega) : P := h
theorem zw3 {P : Prop} (h : P := by
 clear hc HNO HST
 go_wp2
 go_ret
 exact ⟨zf HP.out.symm, rfl⟩) : P := h
theorem zxe {P : Prop} (h : P := by
 go_wp2
 go_ret
 exact ⟨zf HP.out.symm, rfl⟩) : P := h
theorem zow (s : ByteArray) (w : World) (hs : s.size ≤ maxLen) : Calls Tryz.prog 115 #[.string s] w fun e w' => e = .returned (.bool (V.xq s.data.toList)) /\ w' = w := by
 have hl := zj s
 unfold maxLen at hs
 by_cases h0 : s.size = 0
 ·have g2 : s = ⟨#[]⟩ := ya (by rw [List.length_eq_zero_iff.1 (by omega : s.data.toList.length = 0)])
  subst g2
  go_enter Tryz.func115, Tryz.ntmps115
  go_wp2
  go_ret
  exact ⟨rfl, rfl⟩
 have q0 : ¬ (s.size : Int) < 1 := by omega
 have g0 : s.data.toList ≠ [] := fun e => by rw [e] at hl; exact h0 hl.symm
 have g5 : s.toList.isEmpty = false := by
  rw [Lib.toList_data]
  cases hq : s.data.toList with
  | nil => exact absurd hq g0
  | cons c r => rfl
 have g4 : (s.data.toList == []) = false := by rw [zv6]; exact g0
 clear g0
 by_cases h64 : 64 < s.size
 ·have HP : Hid (V.xq s.data.toList = false) := zv2 (decide_eq_false fun hp => by have := hp.2.1; omega)
  have q1 : (64 : Int) < (s.size : Int) := by omega
  clear hl
  go_enter Tryz.func115, Tryz.ntmps115
  exact zxe
 have q1 : ¬ (64 : Int) < (s.size : Int) := by omega
 have HL := zv2 hl
 clear hl
 go_enter Tryz.func115, Tryz.ntmps115
 go_wp2
 go_loop [3] (fun iv => ∃ k : Nat, k ≤ s.size /\ iv = .int .i64 k /\ ∀ j (h : j < s.data.toList.length), j < k -> V.nmAt j s.data.toList[j] = true) (fun iv => s.size - (intOf iv).toNat)
 case atStart => exact ⟨0, Nat.zero_le _, rfl, fun j _ h => absurd h (Nat.not_lt_zero _)⟩
 case round =>
  obtain ⟨k, hk, rfl, g1⟩ := hrel
  have HAT := zv2 g1
  clear g1
  by_cases hlt : k < s.size
  ·have he : s.data.toList[k]'(by have := HL.out; omega) = s[k] := by simp; rfl
   have HNO := zv2 (V.zn8 (s := s.data.toList) (k := k) (by have := HL.out; omega))
   have HST : Hid (V.nmAt k s[k] = true -> ∀ j (h : j < s.data.toList.length), j < k + 1 -> V.nmAt j s.data.toList[j] = true) := zv2 (fun hy j h hj => by
     by_cases hjk : j < k
     · exact HAT.out j h hjk
     · obtain rfl : j = k := by omega
       rw [he]; exact hy)
   rw [he] at HNO
   clear he HAT
   have i1 : (0 : Int) ≤ (k : Int) := by omega
   have i2 : (k : Int) < (s.size : Int) := by omega
   have wr1 : IntKind.i64.wrap ((k : Int) + 1) = (k : Int) + 1 := IntWalk.i64_in _ (by omega)
   have g3 : (s[k].toNat < 48 /\ s[k].toNat ≠ 45 /\ s[k].toNat ≠ 46) ∨ (s[k].toNat = 45) ∨ (s[k].toNat = 46) ∨ (48 ≤ s[k].toNat /\ s[k].toNat ≤ 57) ∨ (58 ≤ s[k].toNat /\ s[k].toNat < 97 /\ s[k].toNat ≠ 95) ∨ (s[k].toNat = 95) ∨ (97 ≤ s[k].toNat /\ s[k].toNat ≤ 122) ∨ (123 ≤ s[k].toNat) := by omega
   rcases g3 with hc | hc | hc | hc | hc | hc | hc | hc
   ·have HP := zv2 (HNO.out (by simp [V.nmAt, V.nmA, V.nmP]; omega))
    by_cases hk0 : 0 < k
    ·have j0 : (0 : Int) < (k : Int) := by omega
     have f0 : ¬ (97 : Int) ≤ (s[k].toNat : Int) := by omega
     have f1 : (s[k].toNat : Int) ≤ 122 := by omega
     have f2 : ¬ (48 : Int) ≤ (s[k].toNat : Int) := by omega
     have f3 : (s[k].toNat : Int) ≤ 57 := by omega
     exact zwc
    ·have j0 : ¬ (0 : Int) < (k : Int) := by omega
     have f0 : ¬ (97 : Int) ≤ (s[k].toNat : Int) := by omega
     have f1 : (s[k].toNat : Int) ≤ 122 := by omega
     have f2 : ¬ (48 : Int) ≤ (s[k].toNat : Int) := by omega
     have f3 : (s[k].toNat : Int) ≤ 57 := by omega
     exact zwc
   ·by_cases hk0 : 0 < k
    ·have HY := zv2 (HST.out (by simp [V.nmAt, V.nmP, hc, hk0]))
     have j0 : (0 : Int) < (k : Int) := by omega
     have f0 : ¬ (97 : Int) ≤ (s[k].toNat : Int) := by omega
     have f1 : (s[k].toNat : Int) ≤ 122 := by omega
     have f2 : ¬ (48 : Int) ≤ (s[k].toNat : Int) := by omega
     have f3 : (s[k].toNat : Int) ≤ 57 := by omega
     have f4 : ¬ (s[k].toNat : Int) = 46 := by omega
     have f5 : ((s[k].toNat : Int) == 46) = false := by rw [zv6]; omega
     have f6 : ¬ (s[k].toNat : Int) = 95 := by omega
     have f7 : ((s[k].toNat : Int) == 95) = false := by rw [zv6]; omega
     have f8 : (s[k].toNat : Int) = 45 := by omega
     exact zwk
    ·have HP := zv2 (HNO.out (by simp [V.nmAt, V.nmA, hc, hk0]))
     have j0 : ¬ (0 : Int) < (k : Int) := by omega
     have f0 : ¬ (97 : Int) ≤ (s[k].toNat : Int) := by omega
     have f1 : (s[k].toNat : Int) ≤ 122 := by omega
     have f2 : ¬ (48 : Int) ≤ (s[k].toNat : Int) := by omega
     have f3 : (s[k].toNat : Int) ≤ 57 := by omega
     have f4 : ¬ (s[k].toNat : Int) = 46 := by omega
     have f5 : ((s[k].toNat : Int) == 46) = false := by rw [zv6]; omega
     have f6 : ¬ (s[k].toNat : Int) = 95 := by omega
     have f7 : ((s[k].toNat : Int) == 95) = false := by rw [zv6]; omega
     have f8 : (s[k].toNat : Int) = 45 := by omega
     exact zw3
   ·by_cases hk0 : 0 < k
    ·have HY := zv2 (HST.out (by simp [V.nmAt, V.nmP, hc, hk0]))
     have j0 : (0 : Int) < (k : Int) := by omega
     have f0 : ¬ (97 : Int) ≤ (s[k].toNat : Int) := by omega
     have f1 : (s[k].toNat : Int) ≤ 122 := by omega
     have f2 : ¬ (48 : Int) ≤ (s[k].toNat : Int) := by omega
     have f3 : (s[k].toNat : Int) ≤ 57 := by omega
     have f4 : (s[k].toNat : Int) = 46 := by omega
     have f5 : ¬ (s[k].toNat : Int) = 95 := by omega
     have f6 : ((s[k].toNat : Int) == 95) = false := by rw [zv6]; omega
     have f7 : ¬ (s[k].toNat : Int) = 45 := by omega
     have f8 : ((s[k].toNat : Int) == 45) = false := by rw [zv6]; omega
     exact zwk
    ·have HP := zv2 (HNO.out (by simp [V.nmAt, V.nmA, hc, hk0]))
     have j0 : ¬ (0 : Int) < (k : Int) := by omega
     have f0 : ¬ (97 : Int) ≤ (s[k].toNat : Int) := by omega
     have f1 : (s[k].toNat : Int) ≤ 122 := by omega
     have f2 : ¬ (48 : Int) ≤ (s[k].toNat : Int) := by omega
     have f3 : (s[k].toNat : Int) ≤ 57 := by omega
     have f4 : (s[k].toNat : Int) = 46 := by omega
     have f5 : ¬ (s[k].toNat : Int) = 95 := by omega
     have f6 : ((s[k].toNat : Int) == 95) = false := by rw [zv6]; omega
     have f7 : ¬ (s[k].toNat : Int) = 45 := by omega
     have f8 : ((s[k].toNat : Int) == 45) = false := by rw [zv6]; omega
     exact zw3
   ·have HY := zv2 (HST.out (by simp [V.nmAt, V.nmA, hc]))
    have f0 : ¬ (97 : Int) ≤ (s[k].toNat : Int) := by omega
    have f1 : (s[k].toNat : Int) ≤ 122 := by omega
    have f2 : (48 : Int) ≤ (s[k].toNat : Int) := by omega
    have f3 : (s[k].toNat : Int) ≤ 57 := by omega
    exact zwj
   ·have HP := zv2 (HNO.out (by simp [V.nmAt, V.nmA, V.nmP]; omega))
    by_cases hk0 : 0 < k
    ·have j0 : (0 : Int) < (k : Int) := by omega
     have f0 : ¬ (97 : Int) ≤ (s[k].toNat : Int) := by omega
     have f1 : (s[k].toNat : Int) ≤ 122 := by omega
     have f2 : (48 : Int) ≤ (s[k].toNat : Int) := by omega
     have f3 : ¬ (s[k].toNat : Int) ≤ 57 := by omega
     exact zwc
    ·have j0 : ¬ (0 : Int) < (k : Int) := by omega
     have f0 : ¬ (97 : Int) ≤ (s[k].toNat : Int) := by omega
     have f1 : (s[k].toNat : Int) ≤ 122 := by omega
     have f2 : (48 : Int) ≤ (s[k].toNat : Int) := by omega
     have f3 : ¬ (s[k].toNat : Int) ≤ 57 := by omega
     exact zwc
   ·by_cases hk0 : 0 < k
    ·have HY := zv2 (HST.out (by simp [V.nmAt, V.nmP, hc, hk0]))
     have j0 : (0 : Int) < (k : Int) := by omega
     have f0 : ¬ (97 : Int) ≤ (s[k].toNat : Int) := by omega
     have f1 : (s[k].toNat : Int) ≤ 122 := by omega
     have f2 : (48 : Int) ≤ (s[k].toNat : Int) := by omega
     have f3 : ¬ (s[k].toNat : Int) ≤ 57 := by omega
     have f4 : ¬ (s[k].toNat : Int) = 46 := by omega
     have f5 : ((s[k].toNat : Int) == 46) = false := by rw [zv6]; omega
     have f6 : (s[k].toNat : Int) = 95 := by omega
     have f7 : ¬ (s[k].toNat : Int) = 45 := by omega
     have f8 : ((s[k].toNat : Int) == 45) = false := by rw [zv6]; omega
     exact zwk
    ·have HP := zv2 (HNO.out (by simp [V.nmAt, V.nmA, hc, hk0]))
     have j0 : ¬ (0 : Int) < (k : Int) := by omega
     have f0 : ¬ (97 : Int) ≤ (s[k].toNat : Int) := by omega
     have f1 : (s[k].toNat : Int) ≤ 122 := by omega
     have f2 : (48 : Int) ≤ (s[k].toNat : Int) := by omega
     have f3 : ¬ (s[k].toNat : Int) ≤ 57 := by omega
     have f4 : ¬ (s[k].toNat : Int) = 46 := by omega
     have f5 : ((s[k].toNat : Int) == 46) = false := by rw [zv6]; omega
     have f6 : (s[k].toNat : Int) = 95 := by omega
     have f7 : ¬ (s[k].toNat : Int) = 45 := by omega
     have f8 : ((s[k].toNat : Int) == 45) = false := by rw [zv6]; omega
     exact zw3
   ·have HY := zv2 (HST.out (by simp [V.nmAt, V.nmA, hc]))
    have f0 : (97 : Int) ≤ (s[k].toNat : Int) := by omega
    have f1 : (s[k].toNat : Int) ≤ 122 := by omega
    have f2 : (48 : Int) ≤ (s[k].toNat : Int) := by omega
    have f3 : ¬ (s[k].toNat : Int) ≤ 57 := by omega
    exact zwj
   ·have HP := zv2 (HNO.out (by simp [V.nmAt, V.nmA, V.nmP]; omega))
    by_cases hk0 : 0 < k
    ·have j0 : (0 : Int) < (k : Int) := by omega
     have f0 : (97 : Int) ≤ (s[k].toNat : Int) := by omega
     have f1 : ¬ (s[k].toNat : Int) ≤ 122 := by omega
     have f2 : (48 : Int) ≤ (s[k].toNat : Int) := by omega
     have f3 : ¬ (s[k].toNat : Int) ≤ 57 := by omega
     exact zwc
    ·have j0 : ¬ (0 : Int) < (k : Int) := by omega
     have f0 : (97 : Int) ≤ (s[k].toNat : Int) := by omega
     have f1 : ¬ (s[k].toNat : Int) ≤ 122 := by omega
     have f2 : (48 : Int) ≤ (s[k].toNat : Int) := by omega
     have f3 : ¬ (s[k].toNat : Int) ≤ 57 := by omega
     exact zwc
  ·obtain rfl : k = s.size := by omega
   have HP : Hid (V.xq s.data.toList = true) := zv2 (decide_eq_true ⟨by have := HL.out; omega, by have := HL.out; omega, fun j h => HAT.out j h (by have := HL.out; omega)⟩)
   exact zxe
theorem zw5 {P : Prop} (h : P := by
 go_enter Tryz.func92, Tryz.ntmps92
 go_wp2
 go_ret
 exact ⟨zf HP.out.symm, rfl⟩) : P := h
theorem zzj {P : Prop} (h : P := by
 rcases Nat.eq_zero_or_pos k with e | e
 · have := HZK.out e; omega
 · exact e) : P := h
theorem zm4 (s : ByteArray) (w : World) (hs : s.size ≤ maxLen) : Calls Tryz.prog 92 #[.string s] w fun e w' => e = .returned (.bool (V.xq s.data.toList)) /\ w' = w := by
 have hl := zj s
 unfold maxLen at hs
 by_cases h0 : s.size = 0
 ·have g5 : s = ⟨#[]⟩ := ya (by rw [List.length_eq_zero_iff.1 (by omega : s.data.toList.length = 0)])
  subst g5
  go_enter Tryz.func92, Tryz.ntmps92
  go_wp2
  go_ret
  exact ⟨rfl, rfl⟩
 have q0 : ¬ (s.size : Int) < 1 := by omega
 have g2 : s.data.toList ≠ [] := fun e => by rw [e] at hl; exact h0 hl.symm
 have g8 : s.toList.isEmpty = false := by
  rw [Lib.toList_data]
  cases hq : s.data.toList with
  | nil => exact absurd hq g2
  | cons c r => rfl
 have g7 : (s.data.toList == []) = false := by rw [zv6]; exact g2
 clear g2
 by_cases h64 : 64 < s.size
 ·have HP : Hid (V.xq s.data.toList = false) := zv2 (decide_eq_false fun hp => by have := hp.2.1; omega)
  have q1 : (64 : Int) < (s.size : Int) := by omega
  clear hl
  exact zw5
 have q1 : ¬ (64 : Int) < (s.size : Int) := by omega
 have HL := zv2 hl
 have i00 : 0 < s.size := by omega
 have g3 : s.data.toList[0]'(by omega) = s[0]'i00 := by simp; rfl
 have g0 := zv2 (V.zn8 (s := s.data.toList) (k := 0) (by omega))
 rw [g3] at g0
 clear g3 hl
 have i0 : (0 : Int) < (s.size : Int) := by omega
 by_cases z46 : (s[0]'i00).toNat = 46
 ·have HP : Hid (V.xq s.data.toList = false) := zv2 (g0.out (by simp [V.nmAt, V.nmA, V.nmP, z46]))
  have y46 : ((s[0]'i00).toNat : Int) = 46 := by omega
  clear z46
  exact zw5
 have y46 : ¬ ((s[0]'i00).toNat : Int) = 46 := by omega
 have x46 : (((s[0]'i00).toNat : Int) == 46) = false := by rw [zv6]; exact y46
 by_cases z95 : (s[0]'i00).toNat = 95
 ·have HP : Hid (V.xq s.data.toList = false) := zv2 (g0.out (by simp [V.nmAt, V.nmA, V.nmP, z95]))
  have y95 : ((s[0]'i00).toNat : Int) = 95 := by omega
  clear z95
  exact zw5
 have y95 : ¬ ((s[0]'i00).toNat : Int) = 95 := by omega
 have x95 : (((s[0]'i00).toNat : Int) == 95) = false := by rw [zv6]; exact y95
 by_cases z45 : (s[0]'i00).toNat = 45
 ·have HP : Hid (V.xq s.data.toList = false) := zv2 (g0.out (by simp [V.nmAt, V.nmA, V.nmP, z45]))
  have y45 : ((s[0]'i00).toNat : Int) = 45 := by omega
  clear z45
  exact zw5
 have y45 : ¬ ((s[0]'i00).toNat : Int) = 45 := by omega
 have x45 : (((s[0]'i00).toNat : Int) == 45) = false := by rw [zv6]; exact y45
 have HZ := zv2 (And.intro z46 (And.intro z95 z45))
 clear z46 z95 z45 g0
 go_enter Tryz.func92, Tryz.ntmps92
 go_wp2
 go_loop [3] (fun iv => ∃ k : Nat, k ≤ s.size /\ iv = .int .i64 k /\ ∀ j (h : j < s.data.toList.length), j < k -> V.nmAt j s.data.toList[j] = true) (fun iv => s.size - (intOf iv).toNat)
 case atStart => exact ⟨0, Nat.zero_le _, rfl, fun j _ h => absurd h (Nat.not_lt_zero _)⟩
 case round =>
  obtain ⟨k, hk, rfl, g4⟩ := hrel
  have HAT := zv2 g4
  clear g4
  by_cases hlt : k < s.size
  ·have he : s.data.toList[k]'(by have := HL.out; omega) = s[k] := by simp; rfl
   have HNO := zv2 (V.zn8 (s := s.data.toList) (k := k) (by have := HL.out; omega))
   have HST : Hid (V.nmAt k s[k] = true -> ∀ j (h : j < s.data.toList.length), j < k + 1 -> V.nmAt j s.data.toList[j] = true) := zv2 (fun hy j h hj => by
     by_cases hjk : j < k
     · exact HAT.out j h hjk
     · obtain rfl : j = k := by omega
       rw [he]; exact hy)
   rw [he] at HNO
   clear he HAT
   have HZK : Hid (k = 0 -> s[k].toNat ≠ 46 /\ s[k].toNat ≠ 95 /\ s[k].toNat ≠ 45) := zv2 (fun e => by subst e; exact HZ.out)
   have i1 : (0 : Int) ≤ (k : Int) := by omega
   have i2 : (k : Int) < (s.size : Int) := by omega
   have wr1 : IntKind.i64.wrap ((k : Int) + 1) = (k : Int) + 1 := IntWalk.i64_in _ (by omega)
   have g6 : (s[k].toNat < 48 /\ s[k].toNat ≠ 45 /\ s[k].toNat ≠ 46) ∨ (s[k].toNat = 45) ∨ (s[k].toNat = 46) ∨ (48 ≤ s[k].toNat /\ s[k].toNat ≤ 57) ∨ (58 ≤ s[k].toNat /\ s[k].toNat < 97 /\ s[k].toNat ≠ 95) ∨ (s[k].toNat = 95) ∨ (97 ≤ s[k].toNat /\ s[k].toNat ≤ 122) ∨ (123 ≤ s[k].toNat) := by omega
   rcases g6 with hc | hc | hc | hc | hc | hc | hc | hc
   ·have HP := zv2 (HNO.out (by simp [V.nmAt, V.nmA, V.nmP]; omega))
    have f0 : ¬ (97 : Int) ≤ (s[k].toNat : Int) := by omega
    have f1 : (s[k].toNat : Int) ≤ 122 := by omega
    have f2 : ¬ (48 : Int) ≤ (s[k].toNat : Int) := by omega
    have f3 : (s[k].toNat : Int) ≤ 57 := by omega
    exact zwc
   ·have HY := zv2 (HST.out (by
      have g1 : 0 < k := by
        exact zzj
      simp [V.nmAt, V.nmP, hc, g1]))
    have f0 : ¬ (97 : Int) ≤ (s[k].toNat : Int) := by omega
    have f1 : (s[k].toNat : Int) ≤ 122 := by omega
    have f2 : ¬ (48 : Int) ≤ (s[k].toNat : Int) := by omega
    have f3 : (s[k].toNat : Int) ≤ 57 := by omega
    have f4 : ¬ (s[k].toNat : Int) = 46 := by omega
    have f5 : ((s[k].toNat : Int) == 46) = false := by rw [zv6]; omega
    have f6 : ¬ (s[k].toNat : Int) = 95 := by omega
    have f7 : ((s[k].toNat : Int) == 95) = false := by rw [zv6]; omega
    have f8 : (s[k].toNat : Int) = 45 := by omega
    exact zwk
   ·have HY := zv2 (HST.out (by
      have g1 : 0 < k := by
        exact zzj
      simp [V.nmAt, V.nmP, hc, g1]))
    have f0 : ¬ (97 : Int) ≤ (s[k].toNat : Int) := by omega
    have f1 : (s[k].toNat : Int) ≤ 122 := by omega
    have f2 : ¬ (48 : Int) ≤ (s[k].toNat : Int) := by omega
    have f3 : (s[k].toNat : Int) ≤ 57 := by omega
    have f4 : (s[k].toNat : Int) = 46 := by omega
    have f5 : ¬ (s[k].toNat : Int) = 95 := by omega
    have f6 : ((s[k].toNat : Int) == 95) = false := by rw [zv6]; omega
    have f7 : ¬ (s[k].toNat : Int) = 45 := by omega
    have f8 : ((s[k].toNat : Int) == 45) = false := by rw [zv6]; omega
    exact zwk
   ·have HY := zv2 (HST.out (by simp [V.nmAt, V.nmA, hc]))
    have f0 : ¬ (97 : Int) ≤ (s[k].toNat : Int) := by omega
    have f1 : (s[k].toNat : Int) ≤ 122 := by omega
    have f2 : (48 : Int) ≤ (s[k].toNat : Int) := by omega
    have f3 : (s[k].toNat : Int) ≤ 57 := by omega
    exact zwj
   ·have HP := zv2 (HNO.out (by simp [V.nmAt, V.nmA, V.nmP]; omega))
    have f0 : ¬ (97 : Int) ≤ (s[k].toNat : Int) := by omega
    have f1 : (s[k].toNat : Int) ≤ 122 := by omega
    have f2 : (48 : Int) ≤ (s[k].toNat : Int) := by omega
    have f3 : ¬ (s[k].toNat : Int) ≤ 57 := by omega
    exact zwc
   ·have HY := zv2 (HST.out (by
      have g1 : 0 < k := by
        exact zzj
      simp [V.nmAt, V.nmP, hc, g1]))
    have f0 : ¬ (97 : Int) ≤ (s[k].toNat : Int) := by omega
    have f1 : (s[k].toNat : Int) ≤ 122 := by omega
    have f2 : (48 : Int) ≤ (s[k].toNat : Int) := by omega
    have f3 : ¬ (s[k].toNat : Int) ≤ 57 := by omega
    have f4 : ¬ (s[k].toNat : Int) = 46 := by omega
    have f5 : ((s[k].toNat : Int) == 46) = false := by rw [zv6]; omega
    have f6 : (s[k].toNat : Int) = 95 := by omega
    have f7 : ¬ (s[k].toNat : Int) = 45 := by omega
    have f8 : ((s[k].toNat : Int) == 45) = false := by rw [zv6]; omega
    exact zwk
   ·have HY := zv2 (HST.out (by simp [V.nmAt, V.nmA, hc]))
    have f0 : (97 : Int) ≤ (s[k].toNat : Int) := by omega
    have f1 : (s[k].toNat : Int) ≤ 122 := by omega
    have f2 : (48 : Int) ≤ (s[k].toNat : Int) := by omega
    have f3 : ¬ (s[k].toNat : Int) ≤ 57 := by omega
    exact zwj
   ·have HP := zv2 (HNO.out (by simp [V.nmAt, V.nmA, V.nmP]; omega))
    have f0 : (97 : Int) ≤ (s[k].toNat : Int) := by omega
    have f1 : ¬ (s[k].toNat : Int) ≤ 122 := by omega
    have f2 : (48 : Int) ≤ (s[k].toNat : Int) := by omega
    have f3 : ¬ (s[k].toNat : Int) ≤ 57 := by omega
    exact zwc
  ·obtain rfl : k = s.size := by omega
   have HP : Hid (V.xq s.data.toList = true) := zv2 (decide_eq_true ⟨by have := HL.out; omega, by have := HL.out; omega, fun j h => HAT.out j h (by have := HL.out; omega)⟩)
   exact zxe
theorem zyk {P : Prop} (h : P := by
 have HE := zv2 (HIn.out e)
 clear HD e
 go_wp2
 go_ret
 exact ⟨zf (by rw [HA.out, HE.out]), HB1.out⟩) : P := h
theorem zyz {P : Prop} (h : P := by
 go_enter Tryz.func93, Tryz.ntmps93
 go_wp2
 go_ret
 exact ⟨zf HR.out.symm, zv5 _ _⟩) : P := h
theorem zml (s : ByteArray) (w : World) (hm : zk w) (hs : s.size ≤ maxLen) :
  Calls Tryz.prog 93 #[.string s] w fun e w' => e = .returned (.bool (V.jp s.data.toList)) /\ Below w.heap.size w w' := by
 have HM := zv2 hm
 unfold maxLen at hs
 clear hm
 by_cases h1 : s.size < 1
 ·have HR := zv2 (zcm (s := s.data.toList) (.inl (by rw [zj]; exact h1)))
  have he : s = ⟨#[]⟩ := ya (by
    have : s.data.toList = [] := List.eq_nil_of_length_eq_zero (by rw [zj]; omega)
    rw [this])
  subst he
  exact zyz
 ·have g3 : s.toList.isEmpty = false := by
   rw [Lib.toList_data]
   rcases hd : s.data.toList with _ | ⟨c, r⟩
   ·have := zj s; rw [hd] at this; simp at this; omega
   ·rfl
  have g7 : ¬ s.toList = [] := by simpa using g3
  by_cases h2 : 200 < s.size
  ·have HR := zv2 (zcm (s := s.data.toList) (.inr (by rw [zj]; exact h2)))
   exact zyz
  ·have g4 : 1 ≤ s.size := by omega
   have g5 : s.size ≤ 200 := by omega
   clear h1 h2
   go_enter Tryz.func93, Tryz.ntmps93
   go_wp2
   go_loop [3] (fun i => ∃ k : Nat, k ≤ s.size /\ i = .int .i64 k /\ (s.data.toList.take k).all (fun c => c != 0) = true) (fun i => s.size - (intOf i).toNat)
   case atStart => exact ⟨0, Nat.zero_le _, rfl, rfl⟩
   case round =>
    obtain ⟨k, hk, rfl, hp⟩ := hrel
    have HP := zv2 hp
    clear hp
    by_cases hlt : k < s.size
    ·have hl : k < s.data.toList.length := by rw [zj]; exact hlt
     have HT := zv2 (V.zca (p := fun c => c != 0) hl)
     have he : s.data.toList[k] = s[k] := by simp; rfl
     by_cases h0 : s[k] = 0
     ·have HR := zv2 (zli (s := s.data.toList) (by rw [← h0, ← he]; exact List.getElem_mem _))
      have g6 : ((s[k]).toNat : Int) = 0 := by rw [h0]; rfl
      clear he
      go_wp2
      go_ret
      exact ⟨zf HR.out.symm, zv5 _ _⟩
     ·have g6 : ¬ ((s[k]).toNat : Int) = 0 := fun e => h0 (UInt8.toNat_inj.1 (show (s[k]).toNat = 0 by omega))
      have HN : Hid ((s[k] != 0) = true) := zv2 (by simpa using h0)
      have HE := zv2 he
      clear he
      go_wp2
      go_round
      case rel => exact ⟨k + 1, by omega, by go_num, by rw [HT.out, HP.out, HE.out, HN.out]; rfl⟩
      case measure => simp [intOf]; omega
    ·have hz : (0 : UInt8) ∉ s.data.toList := by
      have hp := HP.out
      rw [List.take_of_length_le (by rw [zj]; omega), List.all_eq_true] at hp
      intro g
      have := hp 0 g
      simp at this
     have HR := zv2 (zlt (s := s.data.toList) (by rw [zj]; exact g4) (by rw [zj]; exact g5) hz)
     clear hz HP
     go_wp2_with fail
     refine (kp s 47 _ HM.out (by omega)).mono ?_
     rintro e w1 ⟨rfl, g1⟩
     have g2 := Strs.split w (V.zm 47 s.data.toList) 9
     rw [← g1] at g2
     have hb1 : Below w.heap.size w w1 := by rw [g1]; exact (zv5 _ w).alloc (zv4 _) _
     have HB1 := zv2 hb1
     have HS := zv2 g2
     have HA : Hid (V.jp s.data.toList = (V.zm 47 s.data.toList).all V.yt) := HR
     have g8 : (V.zm 47 s.data.toList).length ≤ 201 := by have := jl 47 s.data.toList; rw [zj] at this; omega
     clear g1 g2 hb1
     generalize V.zm 47 s.data.toList = P at *
     go_wp2
     go_loop [5] (fun i => ∃ k : Nat, k ≤ P.length /\ i = .int .i64 k /\ (P.take k).all V.yt = true) (fun i => P.length - (intOf i).toNat)
     case atStart => exact ⟨0, Nat.zero_le _, rfl, rfl⟩
     case round =>
      obtain ⟨k, hk, rfl, hp⟩ := hrel
      have HP := zv2 hp
      clear hp
      by_cases hlt : k < P.length
      ·obtain ⟨b, off, e, _, hcell⟩ := HS.out.at k hlt
       cases e
       rw [Nat.zero_add] at hcell
       have HT := zv2 (zdw (p := V.yt) hlt)
       have hg : P.getD k [] = P[k] := by rw [List.getD_eq_getElem?_getD, List.getElem?_eq_getElem hlt]; rfl
       rw [hg] at hcell
       have HIn : Hid (V.yt P[k] = false -> P.all V.yt = false) := zv2 fun h => by
        rw [← Bool.not_eq_true, List.all_eq_true]
        intro g
        rw [g _ (List.getElem_mem hlt)] at h; cases h
       have HD := zv2 (V.zfn P[k])
       generalize P[k] = p at *
       clear hg
       rcases HD.out with ⟨rfl, e⟩ | ⟨rfl, e⟩ | ⟨rfl, e⟩ | ⟨e1, e2, e3, e⟩
       ·exact zyk
       ·exact zyk
       ·exact zyk
       ·have HE := zv2 e
        clear HD e
        go_wp2
        go_round
        case rel => exact ⟨k + 1, by omega, by go_num, by rw [HT.out, HP.out, HE.out]; rfl⟩
        case measure => simp [intOf]; omega
      ·have g0 := HP.out
       rw [List.take_of_length_le (by omega)] at g0
       have HL := zv2 g0
       clear g0
       go_wp2
       go_ret
       exact ⟨zf (by rw [HA.out, HL.out]), HB1.out⟩
open Go.RowKit
theorem zr2 (n : Int) (x y : V.Bs) (c : Int) (w : World) (hm : zk w) (hn : V.scheme n = true) (hx : V.valid n x = true) (hy : V.valid n y = true) (hc : V.cmpV n x y = c) :
  Calls Tryz.prog 79 #[.int .i64 n, .string ⟨x.toArray⟩, .string ⟨y.toArray⟩] w fun e w' => e = .returned (.tuple #[.int .i64 c, .int .i64 0]) /\ Below w.heap.size w w' := by
 have l1 := V.yc hx
 have l2 := V.yc hy
 refine zr6 n ⟨x.toArray⟩ ⟨y.toArray⟩ c 0 ?_ w hm (by show x.length ≤ _; unfold maxLen; omega) (by show y.length ≤ _; unfold maxLen; omega)
 simp only
 unfold V.qe
 rw [hn, hx, hy]
 simp only [Bool.not_true, Bool.false_eq_true, if_false, Bool.and_self, if_true, hc]
end Go.Proofs.YtbikeahmldobkaaGreatDoor

/-
  Lemmas for the law.
-/
import Derived.Test.YtbikeahmldobkaaGreatDoorC41x21
import Derived.Test.YtbikeahmldobkaaGreatDoorC41x10
set_option linter.all false
set_option maxRecDepth 100000
set_option maxHeartbeats 3200000
namespace Go.Proofs.YtbikeahmldobkaaGreatDoor
open Go.RowKit
theorem zpi {P : Prop} (h : P := by
 have f4 : ¬ (s[k].toNat : Int) = 46 := by omega
 have f5 : ((s[k].toNat : Int) == 46) = false := by rw [zpe]; omega
 have f6 : ¬ (s[k].toNat : Int) = 95 := by omega
 have f7 : ((s[k].toNat : Int) == 95) = false := by rw [zpe]; omega
 have f8 : ¬ (s[k].toNat : Int) = 45 := by omega
 have f9 : ((s[k].toNat : Int) == 45) = false := by rw [zpe]; omega
 clear hc HNO HST
 go_wp2
 go_ret
 exact ⟨zf HP.out.symm, rfl⟩) : P := h
theorem zpm {P : Prop} (h : P := by
 have f4 : ¬ (s[k].toNat : Int) = 46 := by omega
 have f5 : ((s[k].toNat : Int) == 46) = false := by rw [zpe]; omega
 have f6 : ¬ (s[k].toNat : Int) = 95 := by omega
 have f7 : ((s[k].toNat : Int) == 95) = false := by rw [zpe]; omega
 have f8 : ¬ (s[k].toNat : Int) = 45 := by omega
 have f9 : ((s[k].toNat : Int) == 45) = false := by rw [zpe]; omega
 clear hc HNO HST
 go_wp2
 go_round
 case rel => exact ⟨k + 1, by omega, by go_num, HY.out⟩
 case measure => simp [intOf]; omega) : P := h
theorem zpn {P : Prop} (h : P := by
 clear hc HNO HST
 go_wp2
 go_round
 case rel => exact ⟨k + 1, by omega, by go_num, HY.out⟩
 case measure => simp [intOf]; omega) : P := h
theorem zp5 {P : Prop} (h : P := by
 clear hc HNO HST
 go_wp2
 go_ret
 exact ⟨zf HP.out.symm, rfl⟩) : P := h
theorem zqc {P : Prop} (h : P := by
 go_wp2
 go_ret
 exact ⟨zf HP.out.symm, rfl⟩) : P := h
theorem zj0 (s : ByteArray) (w : World) (hs : s.size ≤ maxLen) : Calls Tryz.prog 115 #[.string s] w fun e w' => e = .returned (.bool (V.kh s.data.toList)) /\ w' = w := by
 have hl := zi s
 unfold maxLen at hs
 by_cases h0 : s.size = 0
 ·have hs0 : s = ⟨#[]⟩ := ki (by rw [List.length_eq_zero_iff.1 (by omega : s.data.toList.length = 0)])
  subst hs0
  go_enter Tryz.func115, Tryz.ntmps115
  go_wp2
  go_ret
  exact ⟨rfl, rfl⟩
 have q0 : ¬ (s.size : Int) < 1 := by omega
 have hne : s.data.toList ≠ [] := fun e => by rw [e] at hl; exact h0 hl.symm
 have hse : s.toList.isEmpty = false := by
  rw [Lib.toList_data]
  cases hq : s.data.toList with
  | nil => exact absurd hq hne
  | cons c r => rfl
 have hse2 : (s.data.toList == []) = false := by rw [zpe]; exact hne
 clear hne
 by_cases h64 : 64 < s.size
 ·have HP : Hid (V.kh s.data.toList = false) := zpa (decide_eq_false fun hp => by have := hp.2.1; omega)
  have q1 : (64 : Int) < (s.size : Int) := by omega
  clear hl
  go_enter Tryz.func115, Tryz.ntmps115
  exact zqc
 have q1 : ¬ (64 : Int) < (s.size : Int) := by omega
 have HL := zpa hl
 clear hl
 go_enter Tryz.func115, Tryz.ntmps115
 go_wp2
 go_loop [3] (fun iv => ∃ k : Nat, k ≤ s.size /\ iv = .int .i64 k /\ ∀ j (h : j < s.data.toList.length), j < k -> V.nmAt j s.data.toList[j] = true) (fun iv => s.size - (intOf iv).toNat)
 case atStart => exact ⟨0, Nat.zero_le _, rfl, fun j _ h => absurd h (Nat.not_lt_zero _)⟩
 case round =>
  obtain ⟨k, hk, rfl, hat⟩ := hrel
  have HAT := zpa hat
  clear hat
  by_cases hlt : k < s.size
  ·have he : s.data.toList[k]'(by have := HL.out; omega) = s[k] := by simp; rfl
   have HNO := zpa (V.zji (s := s.data.toList) (k := k) (by have := HL.out; omega))
   have HST : Hid (V.nmAt k s[k] = true -> ∀ j (h : j < s.data.toList.length), j < k + 1 -> V.nmAt j s.data.toList[j] = true) := zpa (fun hy j h hj => by
     by_cases hjk : j < k
     · exact HAT.out j h hjk
     · obtain rfl : j = k := by omega
       rw [he]; exact hy)
   rw [he] at HNO
   clear he HAT
   have i1 : (0 : Int) ≤ (k : Int) := by omega
   have i2 : (k : Int) < (s.size : Int) := by omega
   have wr1 : IntKind.i64.wrap ((k : Int) + 1) = (k : Int) + 1 := IntWalk.i64_in _ (by omega)
   have hcl : (s[k].toNat < 48 /\ s[k].toNat ≠ 45 /\ s[k].toNat ≠ 46) ∨ (s[k].toNat = 45) ∨ (s[k].toNat = 46) ∨ (48 ≤ s[k].toNat /\ s[k].toNat ≤ 57) ∨ (58 ≤ s[k].toNat /\ s[k].toNat < 97 /\ s[k].toNat ≠ 95) ∨ (s[k].toNat = 95) ∨ (97 ≤ s[k].toNat /\ s[k].toNat ≤ 122) ∨ (123 ≤ s[k].toNat) := by omega
   rcases hcl with hc | hc | hc | hc | hc | hc | hc | hc
   ·have HP := zpa (HNO.out (by simp [V.nmAt, V.nmA, V.nmP]; omega))
    by_cases hk0 : 0 < k
    ·have j0 : (0 : Int) < (k : Int) := by omega
     have f0 : ¬ (97 : Int) ≤ (s[k].toNat : Int) := by omega
     have f1 : (s[k].toNat : Int) ≤ 122 := by omega
     have f2 : ¬ (48 : Int) ≤ (s[k].toNat : Int) := by omega
     have f3 : (s[k].toNat : Int) ≤ 57 := by omega
     exact zpi
    ·have j0 : ¬ (0 : Int) < (k : Int) := by omega
     have f0 : ¬ (97 : Int) ≤ (s[k].toNat : Int) := by omega
     have f1 : (s[k].toNat : Int) ≤ 122 := by omega
     have f2 : ¬ (48 : Int) ≤ (s[k].toNat : Int) := by omega
     have f3 : (s[k].toNat : Int) ≤ 57 := by omega
     exact zpi
   ·by_cases hk0 : 0 < k
    ·have HY := zpa (HST.out (by simp [V.nmAt, V.nmP, hc, hk0]))
     have j0 : (0 : Int) < (k : Int) := by omega
     have f0 : ¬ (97 : Int) ≤ (s[k].toNat : Int) := by omega
     have f1 : (s[k].toNat : Int) ≤ 122 := by omega
     have f2 : ¬ (48 : Int) ≤ (s[k].toNat : Int) := by omega
     have f3 : (s[k].toNat : Int) ≤ 57 := by omega
     have f4 : ¬ (s[k].toNat : Int) = 46 := by omega
     have f5 : ((s[k].toNat : Int) == 46) = false := by rw [zpe]; omega
     have f6 : ¬ (s[k].toNat : Int) = 95 := by omega
     have f7 : ((s[k].toNat : Int) == 95) = false := by rw [zpe]; omega
     have f8 : (s[k].toNat : Int) = 45 := by omega
     exact zpn
    ·have HP := zpa (HNO.out (by simp [V.nmAt, V.nmA, hc, hk0]))
     have j0 : ¬ (0 : Int) < (k : Int) := by omega
     have f0 : ¬ (97 : Int) ≤ (s[k].toNat : Int) := by omega
     have f1 : (s[k].toNat : Int) ≤ 122 := by omega
     have f2 : ¬ (48 : Int) ≤ (s[k].toNat : Int) := by omega
     have f3 : (s[k].toNat : Int) ≤ 57 := by omega
     have f4 : ¬ (s[k].toNat : Int) = 46 := by omega
     have f5 : ((s[k].toNat : Int) == 46) = false := by rw [zpe]; omega
     have f6 : ¬ (s[k].toNat : Int) = 95 := by omega
     have f7 : ((s[k].toNat : Int) == 95) = false := by rw [zpe]; omega
     have f8 : (s[k].toNat : Int) = 45 := by omega
     exact zp5
   ·by_cases hk0 : 0 < k
    ·have HY := zpa (HST.out (by simp [V.nmAt, V.nmP, hc, hk0]))
     have j0 : (0 : Int) < (k : Int) := by omega
     have f0 : ¬ (97 : Int) ≤ (s[k].toNat : Int) := by omega
     have f1 : (s[k].toNat : Int) ≤ 122 := by omega
     have f2 : ¬ (48 : Int) ≤ (s[k].toNat : Int) := by omega
     have f3 : (s[k].toNat : Int) ≤ 57 := by omega
     have f4 : (s[k].toNat : Int) = 46 := by omega
     have f5 : ¬ (s[k].toNat : Int) = 95 := by omega
     have f6 : ((s[k].toNat : Int) == 95) = false := by rw [zpe]; omega
     have f7 : ¬ (s[k].toNat : Int) = 45 := by omega
     have f8 : ((s[k].toNat : Int) == 45) = false := by rw [zpe]; omega
     exact zpn
    ·have HP := zpa (HNO.out (by simp [V.nmAt, V.nmA, hc, hk0]))
     have j0 : ¬ (0 : Int) < (k : Int) := by omega
     have f0 : ¬ (97 : Int) ≤ (s[k].toNat : Int) := by omega
     have f1 : (s[k].toNat : Int) ≤ 122 := by omega
     have f2 : ¬ (48 : Int) ≤ (s[k].toNat : Int) := by omega
     have f3 : (s[k].toNat : Int) ≤ 57 := by omega
     have f4 : (s[k].toNat : Int) = 46 := by omega
     have f5 : ¬ (s[k].toNat : Int) = 95 := by omega
     have f6 : ((s[k].toNat : Int) == 95) = false := by rw [zpe]; omega
     have f7 : ¬ (s[k].toNat : Int) = 45 := by omega
     have f8 : ((s[k].toNat : Int) == 45) = false := by rw [zpe]; omega
     exact zp5
   ·have HY := zpa (HST.out (by simp [V.nmAt, V.nmA, hc]))
    have f0 : ¬ (97 : Int) ≤ (s[k].toNat : Int) := by omega
    have f1 : (s[k].toNat : Int) ≤ 122 := by omega
    have f2 : (48 : Int) ≤ (s[k].toNat : Int) := by omega
    have f3 : (s[k].toNat : Int) ≤ 57 := by omega
    exact zpm
   ·have HP := zpa (HNO.out (by simp [V.nmAt, V.nmA, V.nmP]; omega))
    by_cases hk0 : 0 < k
    ·have j0 : (0 : Int) < (k : Int) := by omega
     have f0 : ¬ (97 : Int) ≤ (s[k].toNat : Int) := by omega
     have f1 : (s[k].toNat : Int) ≤ 122 := by omega
     have f2 : (48 : Int) ≤ (s[k].toNat : Int) := by omega
     have f3 : ¬ (s[k].toNat : Int) ≤ 57 := by omega
     exact zpi
    ·have j0 : ¬ (0 : Int) < (k : Int) := by omega
     have f0 : ¬ (97 : Int) ≤ (s[k].toNat : Int) := by omega
     have f1 : (s[k].toNat : Int) ≤ 122 := by omega
     have f2 : (48 : Int) ≤ (s[k].toNat : Int) := by omega
     have f3 : ¬ (s[k].toNat : Int) ≤ 57 := by omega
     exact zpi
   ·by_cases hk0 : 0 < k
    ·have HY := zpa (HST.out (by simp [V.nmAt, V.nmP, hc, hk0]))
     have j0 : (0 : Int) < (k : Int) := by omega
     have f0 : ¬ (97 : Int) ≤ (s[k].toNat : Int) := by omega
     have f1 : (s[k].toNat : Int) ≤ 122 := by omega
     have f2 : (48 : Int) ≤ (s[k].toNat : Int) := by omega
     have f3 : ¬ (s[k].toNat : Int) ≤ 57 := by omega
     have f4 : ¬ (s[k].toNat : Int) = 46 := by omega
     have f5 : ((s[k].toNat : Int) == 46) = false := by rw [zpe]; omega
     have f6 : (s[k].toNat : Int) = 95 := by omega
     have f7 : ¬ (s[k].toNat : Int) = 45 := by omega
     have f8 : ((s[k].toNat : Int) == 45) = false := by rw [zpe]; omega
     exact zpn
    ·have HP := zpa (HNO.out (by simp [V.nmAt, V.nmA, hc, hk0]))
     have j0 : ¬ (0 : Int) < (k : Int) := by omega
     have f0 : ¬ (97 : Int) ≤ (s[k].toNat : Int) := by omega
     have f1 : (s[k].toNat : Int) ≤ 122 := by omega
     have f2 : (48 : Int) ≤ (s[k].toNat : Int) := by omega
     have f3 : ¬ (s[k].toNat : Int) ≤ 57 := by omega
     have f4 : ¬ (s[k].toNat : Int) = 46 := by omega
     have f5 : ((s[k].toNat : Int) == 46) = false := by rw [zpe]; omega
     have f6 : (s[k].toNat : Int) = 95 := by omega
     have f7 : ¬ (s[k].toNat : Int) = 45 := by omega
     have f8 : ((s[k].toNat : Int) == 45) = false := by rw [zpe]; omega
     exact zp5
   ·have HY := zpa (HST.out (by simp [V.nmAt, V.nmA, hc]))
    have f0 : (97 : Int) ≤ (s[k].toNat : Int) := by omega
    have f1 : (s[k].toNat : Int) ≤ 122 := by omega
    have f2 : (48 : Int) ≤ (s[k].toNat : Int) := by omega
    have f3 : ¬ (s[k].toNat : Int) ≤ 57 := by omega
    exact zpm
   ·have HP := zpa (HNO.out (by simp [V.nmAt, V.nmA, V.nmP]; omega))
    by_cases hk0 : 0 < k
    ·have j0 : (0 : Int) < (k : Int) := by omega
     have f0 : (97 : Int) ≤ (s[k].toNat : Int) := by omega
     have f1 : ¬ (s[k].toNat : Int) ≤ 122 := by omega
     have f2 : (48 : Int) ≤ (s[k].toNat : Int) := by omega
     have f3 : ¬ (s[k].toNat : Int) ≤ 57 := by omega
     exact zpi
    ·have j0 : ¬ (0 : Int) < (k : Int) := by omega
     have f0 : (97 : Int) ≤ (s[k].toNat : Int) := by omega
     have f1 : ¬ (s[k].toNat : Int) ≤ 122 := by omega
     have f2 : (48 : Int) ≤ (s[k].toNat : Int) := by omega
     have f3 : ¬ (s[k].toNat : Int) ≤ 57 := by omega
     exact zpi
  ·obtain rfl : k = s.size := by omega
   have HP : Hid (V.kh s.data.toList = true) := zpa (decide_eq_true ⟨by have := HL.out; omega, by have := HL.out; omega, fun j h => HAT.out j h (by have := HL.out; omega)⟩)
   exact zqc
theorem zp7 {P : Prop} (h : P := by
 go_enter Tryz.func92, Tryz.ntmps92
 go_wp2
 go_ret
 exact ⟨zf HP.out.symm, rfl⟩) : P := h
theorem zr2 {P : Prop} (h : P := by
 rcases Nat.eq_zero_or_pos k with e | e
 · have := HZK.out e; omega
 · exact e) : P := h
theorem zij (s : ByteArray) (w : World) (hs : s.size ≤ maxLen) : Calls Tryz.prog 92 #[.string s] w fun e w' => e = .returned (.bool (V.kh s.data.toList)) /\ w' = w := by
 have hl := zi s
 unfold maxLen at hs
 by_cases h0 : s.size = 0
 ·have hs0 : s = ⟨#[]⟩ := ki (by rw [List.length_eq_zero_iff.1 (by omega : s.data.toList.length = 0)])
  subst hs0
  go_enter Tryz.func92, Tryz.ntmps92
  go_wp2
  go_ret
  exact ⟨rfl, rfl⟩
 have q0 : ¬ (s.size : Int) < 1 := by omega
 have hne : s.data.toList ≠ [] := fun e => by rw [e] at hl; exact h0 hl.symm
 have hse : s.toList.isEmpty = false := by
  rw [Lib.toList_data]
  cases hq : s.data.toList with
  | nil => exact absurd hq hne
  | cons c r => rfl
 have hse2 : (s.data.toList == []) = false := by rw [zpe]; exact hne
 clear hne
 by_cases h64 : 64 < s.size
 ·have HP : Hid (V.kh s.data.toList = false) := zpa (decide_eq_false fun hp => by have := hp.2.1; omega)
  have q1 : (64 : Int) < (s.size : Int) := by omega
  clear hl
  exact zp7
 have q1 : ¬ (64 : Int) < (s.size : Int) := by omega
 have HL := zpa hl
 have i00 : 0 < s.size := by omega
 have he0 : s.data.toList[0]'(by omega) = s[0]'i00 := by simp; rfl
 have HN0 := zpa (V.zji (s := s.data.toList) (k := 0) (by omega))
 rw [he0] at HN0
 clear he0 hl
 have i0 : (0 : Int) < (s.size : Int) := by omega
 by_cases z46 : (s[0]'i00).toNat = 46
 ·have HP : Hid (V.kh s.data.toList = false) := zpa (HN0.out (by simp [V.nmAt, V.nmA, V.nmP, z46]))
  have y46 : ((s[0]'i00).toNat : Int) = 46 := by omega
  clear z46
  exact zp7
 have y46 : ¬ ((s[0]'i00).toNat : Int) = 46 := by omega
 have x46 : (((s[0]'i00).toNat : Int) == 46) = false := by rw [zpe]; exact y46
 by_cases z95 : (s[0]'i00).toNat = 95
 ·have HP : Hid (V.kh s.data.toList = false) := zpa (HN0.out (by simp [V.nmAt, V.nmA, V.nmP, z95]))
  have y95 : ((s[0]'i00).toNat : Int) = 95 := by omega
  clear z95
  exact zp7
 have y95 : ¬ ((s[0]'i00).toNat : Int) = 95 := by omega
 have x95 : (((s[0]'i00).toNat : Int) == 95) = false := by rw [zpe]; exact y95
 by_cases z45 : (s[0]'i00).toNat = 45
 ·have HP : Hid (V.kh s.data.toList = false) := zpa (HN0.out (by simp [V.nmAt, V.nmA, V.nmP, z45]))
  have y45 : ((s[0]'i00).toNat : Int) = 45 := by omega
  clear z45
  exact zp7
 have y45 : ¬ ((s[0]'i00).toNat : Int) = 45 := by omega
 have x45 : (((s[0]'i00).toNat : Int) == 45) = false := by rw [zpe]; exact y45
 have HZ := zpa (And.intro z46 (And.intro z95 z45))
 clear z46 z95 z45 HN0
 go_enter Tryz.func92, Tryz.ntmps92
 go_wp2
 go_loop [3] (fun iv => ∃ k : Nat, k ≤ s.size /\ iv = .int .i64 k /\ ∀ j (h : j < s.data.toList.length), j < k -> V.nmAt j s.data.toList[j] = true) (fun iv => s.size - (intOf iv).toNat)
 case atStart => exact ⟨0, Nat.zero_le _, rfl, fun j _ h => absurd h (Nat.not_lt_zero _)⟩
 case round =>
  obtain ⟨k, hk, rfl, hat⟩ := hrel
  have HAT := zpa hat
  clear hat
  by_cases hlt : k < s.size
  ·have he : s.data.toList[k]'(by have := HL.out; omega) = s[k] := by simp; rfl
   have HNO := zpa (V.zji (s := s.data.toList) (k := k) (by have := HL.out; omega))
   have HST : Hid (V.nmAt k s[k] = true -> ∀ j (h : j < s.data.toList.length), j < k + 1 -> V.nmAt j s.data.toList[j] = true) := zpa (fun hy j h hj => by
     by_cases hjk : j < k
     · exact HAT.out j h hjk
     · obtain rfl : j = k := by omega
       rw [he]; exact hy)
   rw [he] at HNO
   clear he HAT
   have HZK : Hid (k = 0 -> s[k].toNat ≠ 46 /\ s[k].toNat ≠ 95 /\ s[k].toNat ≠ 45) := zpa (fun e => by subst e; exact HZ.out)
   have i1 : (0 : Int) ≤ (k : Int) := by omega
   have i2 : (k : Int) < (s.size : Int) := by omega
   have wr1 : IntKind.i64.wrap ((k : Int) + 1) = (k : Int) + 1 := IntWalk.i64_in _ (by omega)
   have hcl : (s[k].toNat < 48 /\ s[k].toNat ≠ 45 /\ s[k].toNat ≠ 46) ∨ (s[k].toNat = 45) ∨ (s[k].toNat = 46) ∨ (48 ≤ s[k].toNat /\ s[k].toNat ≤ 57) ∨ (58 ≤ s[k].toNat /\ s[k].toNat < 97 /\ s[k].toNat ≠ 95) ∨ (s[k].toNat = 95) ∨ (97 ≤ s[k].toNat /\ s[k].toNat ≤ 122) ∨ (123 ≤ s[k].toNat) := by omega
   rcases hcl with hc | hc | hc | hc | hc | hc | hc | hc
   ·have HP := zpa (HNO.out (by simp [V.nmAt, V.nmA, V.nmP]; omega))
    have f0 : ¬ (97 : Int) ≤ (s[k].toNat : Int) := by omega
    have f1 : (s[k].toNat : Int) ≤ 122 := by omega
    have f2 : ¬ (48 : Int) ≤ (s[k].toNat : Int) := by omega
    have f3 : (s[k].toNat : Int) ≤ 57 := by omega
    exact zpi
   ·have HY := zpa (HST.out (by
      have hk0 : 0 < k := by
        exact zr2
      simp [V.nmAt, V.nmP, hc, hk0]))
    have f0 : ¬ (97 : Int) ≤ (s[k].toNat : Int) := by omega
    have f1 : (s[k].toNat : Int) ≤ 122 := by omega
    have f2 : ¬ (48 : Int) ≤ (s[k].toNat : Int) := by omega
    have f3 : (s[k].toNat : Int) ≤ 57 := by omega
    have f4 : ¬ (s[k].toNat : Int) = 46 := by omega
    have f5 : ((s[k].toNat : Int) == 46) = false := by rw [zpe]; omega
    have f6 : ¬ (s[k].toNat : Int) = 95 := by omega
    have f7 : ((s[k].toNat : Int) == 95) = false := by rw [zpe]; omega
    have f8 : (s[k].toNat : Int) = 45 := by omega
    exact zpn
   ·have HY := zpa (HST.out (by
      have hk0 : 0 < k := by
        exact zr2
      simp [V.nmAt, V.nmP, hc, hk0]))
    have f0 : ¬ (97 : Int) ≤ (s[k].toNat : Int) := by omega
    have f1 : (s[k].toNat : Int) ≤ 122 := by omega
    have f2 : ¬ (48 : Int) ≤ (s[k].toNat : Int) := by omega
    have f3 : (s[k].toNat : Int) ≤ 57 := by omega
    have f4 : (s[k].toNat : Int) = 46 := by omega
    have f5 : ¬ (s[k].toNat : Int) = 95 := by omega
    have f6 : ((s[k].toNat : Int) == 95) = false := by rw [zpe]; omega
    have f7 : ¬ (s[k].toNat : Int) = 45 := by omega
    have f8 : ((s[k].toNat : Int) == 45) = false := by rw [zpe]; omega
    exact zpn
   ·have HY := zpa (HST.out (by simp [V.nmAt, V.nmA, hc]))
    have f0 : ¬ (97 : Int) ≤ (s[k].toNat : Int) := by omega
    have f1 : (s[k].toNat : Int) ≤ 122 := by omega
    have f2 : (48 : Int) ≤ (s[k].toNat : Int) := by omega
    have f3 : (s[k].toNat : Int) ≤ 57 := by omega
    exact zpm
   ·have HP := zpa (HNO.out (by simp [V.nmAt, V.nmA, V.nmP]; omega))
    have f0 : ¬ (97 : Int) ≤ (s[k].toNat : Int) := by omega
    have f1 : (s[k].toNat : Int) ≤ 122 := by omega
    have f2 : (48 : Int) ≤ (s[k].toNat : Int) := by omega
    have f3 : ¬ (s[k].toNat : Int) ≤ 57 := by omega
    exact zpi
   ·have HY := zpa (HST.out (by
      have hk0 : 0 < k := by
        exact zr2
      simp [V.nmAt, V.nmP, hc, hk0]))
    have f0 : ¬ (97 : Int) ≤ (s[k].toNat : Int) := by omega
    have f1 : (s[k].toNat : Int) ≤ 122 := by omega
    have f2 : (48 : Int) ≤ (s[k].toNat : Int) := by omega
    have f3 : ¬ (s[k].toNat : Int) ≤ 57 := by omega
    have f4 : ¬ (s[k].toNat : Int) = 46 := by omega
    have f5 : ((s[k].toNat : Int) == 46) = false := by rw [zpe]; omega
    have f6 : (s[k].toNat : Int) = 95 := by omega
    have f7 : ¬ (s[k].toNat : Int) = 45 := by omega
    have f8 : ((s[k].toNat : Int) == 45) = false := by rw [zpe]; omega
    exact zpn
   ·have HY := zpa (HST.out (by simp [V.nmAt, V.nmA, hc]))
    have f0 : (97 : Int) ≤ (s[k].toNat : Int) := by omega
    have f1 : (s[k].toNat : Int) ≤ 122 := by omega
    have f2 : (48 : Int) ≤ (s[k].toNat : Int) := by omega
    have f3 : ¬ (s[k].toNat : Int) ≤ 57 := by omega
    exact zpm
   ·have HP := zpa (HNO.out (by simp [V.nmAt, V.nmA, V.nmP]; omega))
    have f0 : (97 : Int) ≤ (s[k].toNat : Int) := by omega
    have f1 : ¬ (s[k].toNat : Int) ≤ 122 := by omega
    have f2 : (48 : Int) ≤ (s[k].toNat : Int) := by omega
    have f3 : ¬ (s[k].toNat : Int) ≤ 57 := by omega
    exact zpi
  ·obtain rfl : k = s.size := by omega
   have HP : Hid (V.kh s.data.toList = true) := zpa (decide_eq_true ⟨by have := HL.out; omega, by have := HL.out; omega, fun j h => HAT.out j h (by have := HL.out; omega)⟩)
   exact zqc
end Go.Proofs.YtbikeahmldobkaaGreatDoor

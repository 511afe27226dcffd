/-
  Lemmas for the law.
-/
import Derived.Test.YtiloljoancdcbaaGreatDoorC40x17
import Derived.Test.YtiloljoancdcbaaGreatDoorC40x15
import Derived.Test.YtiloljoancdcbaaGreatDoorC40x03
import Derived.Test.YtiloljoancdcbaaGreatDoorC40x10
import Derived.Test.YtiloljoancdcbaaGreatDoorC40x11
import Derived.Test.YtiloljoancdcbaaGreatDoorC40x12
import Derived.Test.YtiloljoancdcbaaGreatDoorC40x01
set_option linter.all false
set_option maxRecDepth 100000
set_option maxHeartbeats 3200000
namespace Go.Proofs.YtiloljoancdcbaaGreatDoor
open Go.RowKit
theorem zv1 {P : Prop} (h : P := by
 have f4 : ¬ (s[k].toNat : Int) = 46 := by omega
 have f5 : ((s[k].toNat : Int) == 46) = false := by rw [zvu]; omega
 have f6 : ¬ (s[k].toNat : Int) = 95 := by omega
 have f7 : ((s[k].toNat : Int) == 95) = false := by rw [zvu]; omega
 have f8 : ¬ (s[k].toNat : Int) = 45 := by omega
 have f9 : ((s[k].toNat : Int) == 45) = false := by rw [zvu]; omega
 clear hc HNO HST
 go_wp2
 go_ret
 exact ⟨zc HP.out.symm, rfl⟩) : P := h
theorem zwh {P : Prop} (h : P := by
 have f4 : ¬ (s[k].toNat : Int) = 46 := by omega
 have f5 : ((s[k].toNat : Int) == 46) = false := by rw [zvu]; omega
 have f6 : ¬ (s[k].toNat : Int) = 95 := by omega
 have f7 : ((s[k].toNat : Int) == 95) = false := by rw [zvu]; omega
 have f8 : ¬ (s[k].toNat : Int) = 45 := by omega
 have f9 : ((s[k].toNat : Int) == 45) = false := by rw [zvu]; omega
 clear hc HNO HST
 go_wp2
 go_round
 case rel => exact ⟨k + 1, by omega, by go_num, HY.out⟩
 case measure => simp [intOf]; omega) : P := h
theorem zwz {P : Prop} (h : P := by
 clear hc HNO HST
 go_wp2
 go_round
 case rel => exact ⟨k + 1, by omega, by go_num, HY.out⟩
 case measure => simp [intOf]; omega) : P := h
theorem zxz {P : Prop} (h : P := by
 clear hc HNO HST
 go_wp2
 go_ret
 exact ⟨zc HP.out.symm, rfl⟩) : P := h
theorem zyf {P : Prop} (h : P := by
 go_wp2
 go_ret
 exact ⟨zc HP.out.symm, rfl⟩) : P := h
theorem zp8 (s : ByteArray) (w : World) (hs : s.size ≤ maxLen) : Calls Tryz.prog 31 #[.string s] w fun e w' => e = .returned (.bool (V.xz s.data.toList)) /\ w' = w := by
 have hl := zf s
 unfold maxLen at hs
 by_cases h0 : s.size = 0
 ·have hs0 : s = ⟨#[]⟩ := jj (by rw [List.length_eq_zero_iff.1 (by omega : s.data.toList.length = 0)])
  subst hs0
  go_enter Tryz.func31, Tryz.ntmps31
  go_wp2
  go_ret
  exact ⟨rfl, rfl⟩
 have q0 : ¬ (s.size : Int) < 1 := by omega
 have hne : s.data.toList ≠ [] := fun e => by rw [e] at hl; exact h0 hl.symm
 have hse : s.toList.isEmpty = false := by
  rw [Lib.toList_data]
  cases hq : s.data.toList with
  | nil => exact absurd hq hne
  | cons c r => rfl
 have hse2 : (s.data.toList == []) = false := by rw [zvu]; exact hne
 clear hne
 by_cases h64 : 64 < s.size
 ·have HP : Hid (V.xz s.data.toList = false) := zvq (decide_eq_false fun hp => by have := hp.2.1; omega)
  have q1 : (64 : Int) < (s.size : Int) := by omega
  clear hl
  go_enter Tryz.func31, Tryz.ntmps31
  exact zyf
 have q1 : ¬ (64 : Int) < (s.size : Int) := by omega
 have HL := zvq hl
 clear hl
 go_enter Tryz.func31, Tryz.ntmps31
 go_wp2
 go_loop [3] (fun iv => ∃ k : Nat, k ≤ s.size /\ iv = .int .i64 k /\ ∀ j (h : j < s.data.toList.length), j < k -> V.nmAt j s.data.toList[j] = true) (fun iv => s.size - (intOf iv).toNat)
 case atStart => exact ⟨0, Nat.zero_le _, rfl, fun j _ h => absurd h (Nat.not_lt_zero _)⟩
 case round =>
  obtain ⟨k, hk, rfl, hat⟩ := hrel
  have HAT := zvq hat
  clear hat
  by_cases hlt : k < s.size
  ·have he : s.data.toList[k]'(by have := HL.out; omega) = s[k] := by simp; rfl
   have HNO := zvq (V.zpl (s := s.data.toList) (k := k) (by have := HL.out; omega))
   have HST : Hid (V.nmAt k s[k] = true -> ∀ j (h : j < s.data.toList.length), j < k + 1 -> V.nmAt j s.data.toList[j] = true) := zvq (fun hy j h hj => by
     by_cases hjk : j < k
     · exact HAT.out j h hjk
     · obtain rfl : j = k := by omega
       rw [he]; exact hy)
   rw [he] at HNO
   clear he HAT
   have i1 : (0 : Int) ≤ (k : Int) := by omega
   have i2 : (k : Int) < (s.size : Int) := by omega
   have wr1 : IntKind.i64.wrap ((k : Int) + 1) = (k : Int) + 1 := IntWalk.i64_in _ (by omega)
   have hcl : (s[k].toNat < 48 /\ s[k].toNat ≠ 45 /\ s[k].toNat ≠ 46) ∨ (s[k].toNat = 45) ∨ (s[k].toNat = 46) ∨ (48 ≤ s[k].toNat /\ s[k].toNat ≤ 57) ∨ (58 ≤ s[k].toNat /\ s[k].toNat < 97 /\ s[k].toNat ≠ 95) ∨ (s[k].toNat = 95) ∨ (97 ≤ s[k].toNat /\ s[k].toNat ≤ 122) ∨ (123 ≤ s[k].toNat) := by omega
   rcases hcl with hc | hc | hc | hc | hc | hc | hc | hc
   ·have HP := zvq (HNO.out (by simp [V.nmAt, V.nmA, V.nmP]; omega))
    by_cases hk0 : 0 < k
    ·have j0 : (0 : Int) < (k : Int) := by omega
     have f0 : ¬ (97 : Int) ≤ (s[k].toNat : Int) := by omega
     have f1 : (s[k].toNat : Int) ≤ 122 := by omega
     have f2 : ¬ (48 : Int) ≤ (s[k].toNat : Int) := by omega
     have f3 : (s[k].toNat : Int) ≤ 57 := by omega
     exact zv1
    ·have j0 : ¬ (0 : Int) < (k : Int) := by omega
     have f0 : ¬ (97 : Int) ≤ (s[k].toNat : Int) := by omega
     have f1 : (s[k].toNat : Int) ≤ 122 := by omega
     have f2 : ¬ (48 : Int) ≤ (s[k].toNat : Int) := by omega
     have f3 : (s[k].toNat : Int) ≤ 57 := by omega
     exact zv1
   ·by_cases hk0 : 0 < k
    ·have HY := zvq (HST.out (by simp [V.nmAt, V.nmP, hc, hk0]))
     have j0 : (0 : Int) < (k : Int) := by omega
     have f0 : ¬ (97 : Int) ≤ (s[k].toNat : Int) := by omega
     have f1 : (s[k].toNat : Int) ≤ 122 := by omega
     have f2 : ¬ (48 : Int) ≤ (s[k].toNat : Int) := by omega
     have f3 : (s[k].toNat : Int) ≤ 57 := by omega
     have f4 : ¬ (s[k].toNat : Int) = 46 := by omega
     have f5 : ((s[k].toNat : Int) == 46) = false := by rw [zvu]; omega
     have f6 : ¬ (s[k].toNat : Int) = 95 := by omega
     have f7 : ((s[k].toNat : Int) == 95) = false := by rw [zvu]; omega
     have f8 : (s[k].toNat : Int) = 45 := by omega
     exact zwz
    ·have HP := zvq (HNO.out (by simp [V.nmAt, V.nmA, hc, hk0]))
     have j0 : ¬ (0 : Int) < (k : Int) := by omega
     have f0 : ¬ (97 : Int) ≤ (s[k].toNat : Int) := by omega
     have f1 : (s[k].toNat : Int) ≤ 122 := by omega
     have f2 : ¬ (48 : Int) ≤ (s[k].toNat : Int) := by omega
     have f3 : (s[k].toNat : Int) ≤ 57 := by omega
     have f4 : ¬ (s[k].toNat : Int) = 46 := by omega
     have f5 : ((s[k].toNat : Int) == 46) = false := by rw [zvu]; omega
     have f6 : ¬ (s[k].toNat : Int) = 95 := by omega
     have f7 : ((s[k].toNat : Int) == 95) = false := by rw [zvu]; omega
     have f8 : (s[k].toNat : Int) = 45 := by omega
     exact zxz
   ·by_cases hk0 : 0 < k
    ·have HY := zvq (HST.out (by simp [V.nmAt, V.nmP, hc, hk0]))
     have j0 : (0 : Int) < (k : Int) := by omega
     have f0 : ¬ (97 : Int) ≤ (s[k].toNat : Int) := by omega
     have f1 : (s[k].toNat : Int) ≤ 122 := by omega
     have f2 : ¬ (48 : Int) ≤ (s[k].toNat : Int) := by omega
     have f3 : (s[k].toNat : Int) ≤ 57 := by omega
     have f4 : (s[k].toNat : Int) = 46 := by omega
     have f5 : ¬ (s[k].toNat : Int) = 95 := by omega
     have f6 : ((s[k].toNat : Int) == 95) = false := by rw [zvu]; omega
     have f7 : ¬ (s[k].toNat : Int) = 45 := by omega
     have f8 : ((s[k].toNat : Int) == 45) = false := by rw [zvu]; omega
     exact zwz
    ·have HP := zvq (HNO.out (by simp [V.nmAt, V.nmA, hc, hk0]))
     have j0 : ¬ (0 : Int) < (k : Int) := by omega
     have f0 : ¬ (97 : Int) ≤ (s[k].toNat : Int) := by omega
     have f1 : (s[k].toNat : Int) ≤ 122 := by omega
     have f2 : ¬ (48 : Int) ≤ (s[k].toNat : Int) := by omega
     have f3 : (s[k].toNat : Int) ≤ 57 := by omega
     have f4 : (s[k].toNat : Int) = 46 := by omega
     have f5 : ¬ (s[k].toNat : Int) = 95 := by omega
     have f6 : ((s[k].toNat : Int) == 95) = false := by rw [zvu]; omega
     have f7 : ¬ (s[k].toNat : Int) = 45 := by omega
     have f8 : ((s[k].toNat : Int) == 45) = false := by rw [zvu]; omega
     exact zxz
   ·have HY := zvq (HST.out (by simp [V.nmAt, V.nmA, hc]))
    have f0 : ¬ (97 : Int) ≤ (s[k].toNat : Int) := by omega
    have f1 : (s[k].toNat : Int) ≤ 122 := by omega
    have f2 : (48 : Int) ≤ (s[k].toNat : Int) := by omega
    have f3 : (s[k].toNat : Int) ≤ 57 := by omega
    exact zwh
   ·have HP := zvq (HNO.out (by simp [V.nmAt, V.nmA, V.nmP]; omega))
    by_cases hk0 : 0 < k
    ·have j0 : (0 : Int) < (k : Int) := by omega
     have f0 : ¬ (97 : Int) ≤ (s[k].toNat : Int) := by omega
     have f1 : (s[k].toNat : Int) ≤ 122 := by omega
     have f2 : (48 : Int) ≤ (s[k].toNat : Int) := by omega
     have f3 : ¬ (s[k].toNat : Int) ≤ 57 := by omega
     exact zv1
    ·have j0 : ¬ (0 : Int) < (k : Int) := by omega
     have f0 : ¬ (97 : Int) ≤ (s[k].toNat : Int) := by omega
     have f1 : (s[k].toNat : Int) ≤ 122 := by omega
     have f2 : (48 : Int) ≤ (s[k].toNat : Int) := by omega
     have f3 : ¬ (s[k].toNat : Int) ≤ 57 := by omega
     exact zv1
   ·by_cases hk0 : 0 < k
    ·have HY := zvq (HST.out (by simp [V.nmAt, V.nmP, hc, hk0]))
     have j0 : (0 : Int) < (k : Int) := by omega
     have f0 : ¬ (97 : Int) ≤ (s[k].toNat : Int) := by omega
     have f1 : (s[k].toNat : Int) ≤ 122 := by omega
     have f2 : (48 : Int) ≤ (s[k].toNat : Int) := by omega
     have f3 : ¬ (s[k].toNat : Int) ≤ 57 := by omega
     have f4 : ¬ (s[k].toNat : Int) = 46 := by omega
     have f5 : ((s[k].toNat : Int) == 46) = false := by rw [zvu]; omega
     have f6 : (s[k].toNat : Int) = 95 := by omega
     have f7 : ¬ (s[k].toNat : Int) = 45 := by omega
     have f8 : ((s[k].toNat : Int) == 45) = false := by rw [zvu]; omega
     exact zwz
    ·have HP := zvq (HNO.out (by simp [V.nmAt, V.nmA, hc, hk0]))
     have j0 : ¬ (0 : Int) < (k : Int) := by omega
     have f0 : ¬ (97 : Int) ≤ (s[k].toNat : Int) := by omega
     have f1 : (s[k].toNat : Int) ≤ 122 := by omega
     have f2 : (48 : Int) ≤ (s[k].toNat : Int) := by omega
     have f3 : ¬ (s[k].toNat : Int) ≤ 57 := by omega
     have f4 : ¬ (s[k].toNat : Int) = 46 := by omega
     have f5 : ((s[k].toNat : Int) == 46) = false := by rw [zvu]; omega
     have f6 : (s[k].toNat : Int) = 95 := by omega
     have f7 : ¬ (s[k].toNat : Int) = 45 := by omega
     have f8 : ((s[k].toNat : Int) == 45) = false := by rw [zvu]; omega
     exact zxz
   ·have HY := zvq (HST.out (by simp [V.nmAt, V.nmA, hc]))
    have f0 : (97 : Int) ≤ (s[k].toNat : Int) := by omega
    have f1 : (s[k].toNat : Int) ≤ 122 := by omega
    have f2 : (48 : Int) ≤ (s[k].toNat : Int) := by omega
    have f3 : ¬ (s[k].toNat : Int) ≤ 57 := by omega
    exact zwh
   ·have HP := zvq (HNO.out (by simp [V.nmAt, V.nmA, V.nmP]; omega))
    by_cases hk0 : 0 < k
    ·have j0 : (0 : Int) < (k : Int) := by omega
     have f0 : (97 : Int) ≤ (s[k].toNat : Int) := by omega
     have f1 : ¬ (s[k].toNat : Int) ≤ 122 := by omega
     have f2 : (48 : Int) ≤ (s[k].toNat : Int) := by omega
     have f3 : ¬ (s[k].toNat : Int) ≤ 57 := by omega
     exact zv1
    ·have j0 : ¬ (0 : Int) < (k : Int) := by omega
     have f0 : (97 : Int) ≤ (s[k].toNat : Int) := by omega
     have f1 : ¬ (s[k].toNat : Int) ≤ 122 := by omega
     have f2 : (48 : Int) ≤ (s[k].toNat : Int) := by omega
     have f3 : ¬ (s[k].toNat : Int) ≤ 57 := by omega
     exact zv1
  ·obtain rfl : k = s.size := by omega
   have HP : Hid (V.xz s.data.toList = true) := zvq (decide_eq_true ⟨by have := HL.out; omega, by have := HL.out; omega, fun j h => HAT.out j h (by have := HL.out; omega)⟩)
   exact zyf
theorem zx3 {P : Prop} (h : P := by
 go_enter Tryz.func34, Tryz.ntmps34
 go_wp2
 go_ret
 exact ⟨zc HP.out.symm, rfl⟩) : P := h
theorem z0z {P : Prop} (h : P := by
 rcases Nat.eq_zero_or_pos k with e | e
 · have := HZK.out e; omega
 · exact e) : P := h
theorem zok (s : ByteArray) (w : World) (hs : s.size ≤ maxLen) : Calls Tryz.prog 34 #[.string s] w fun e w' => e = .returned (.bool (V.xz s.data.toList)) /\ w' = w := by
 have hl := zf s
 unfold maxLen at hs
 by_cases h0 : s.size = 0
 ·have hs0 : s = ⟨#[]⟩ := jj (by rw [List.length_eq_zero_iff.1 (by omega : s.data.toList.length = 0)])
  subst hs0
  go_enter Tryz.func34, Tryz.ntmps34
  go_wp2
  go_ret
  exact ⟨rfl, rfl⟩
 have q0 : ¬ (s.size : Int) < 1 := by omega
 have hne : s.data.toList ≠ [] := fun e => by rw [e] at hl; exact h0 hl.symm
 have hse : s.toList.isEmpty = false := by
  rw [Lib.toList_data]
  cases hq : s.data.toList with
  | nil => exact absurd hq hne
  | cons c r => rfl
 have hse2 : (s.data.toList == []) = false := by rw [zvu]; exact hne
 clear hne
 by_cases h64 : 64 < s.size
 ·have HP : Hid (V.xz s.data.toList = false) := zvq (decide_eq_false fun hp => by have := hp.2.1; omega)
  have q1 : (64 : Int) < (s.size : Int) := by omega
  clear hl
  exact zx3
 have q1 : ¬ (64 : Int) < (s.size : Int) := by omega
 have HL := zvq hl
 have i00 : 0 < s.size := by omega
 have he0 : s.data.toList[0]'(by omega) = s[0]'i00 := by simp; rfl
 have HN0 := zvq (V.zpl (s := s.data.toList) (k := 0) (by omega))
 rw [he0] at HN0
 clear he0 hl
 have i0 : (0 : Int) < (s.size : Int) := by omega
 by_cases z46 : (s[0]'i00).toNat = 46
 ·have HP : Hid (V.xz s.data.toList = false) := zvq (HN0.out (by simp [V.nmAt, V.nmA, V.nmP, z46]))
  have y46 : ((s[0]'i00).toNat : Int) = 46 := by omega
  clear z46
  exact zx3
 have y46 : ¬ ((s[0]'i00).toNat : Int) = 46 := by omega
 have x46 : (((s[0]'i00).toNat : Int) == 46) = false := by rw [zvu]; exact y46
 by_cases z95 : (s[0]'i00).toNat = 95
 ·have HP : Hid (V.xz s.data.toList = false) := zvq (HN0.out (by simp [V.nmAt, V.nmA, V.nmP, z95]))
  have y95 : ((s[0]'i00).toNat : Int) = 95 := by omega
  clear z95
  exact zx3
 have y95 : ¬ ((s[0]'i00).toNat : Int) = 95 := by omega
 have x95 : (((s[0]'i00).toNat : Int) == 95) = false := by rw [zvu]; exact y95
 by_cases z45 : (s[0]'i00).toNat = 45
 ·have HP : Hid (V.xz s.data.toList = false) := zvq (HN0.out (by simp [V.nmAt, V.nmA, V.nmP, z45]))
  have y45 : ((s[0]'i00).toNat : Int) = 45 := by omega
  clear z45
  exact zx3
 have y45 : ¬ ((s[0]'i00).toNat : Int) = 45 := by omega
 have x45 : (((s[0]'i00).toNat : Int) == 45) = false := by rw [zvu]; exact y45
 have HZ := zvq (And.intro z46 (And.intro z95 z45))
 clear z46 z95 z45 HN0
 go_enter Tryz.func34, Tryz.ntmps34
 go_wp2
 go_loop [3] (fun iv => ∃ k : Nat, k ≤ s.size /\ iv = .int .i64 k /\ ∀ j (h : j < s.data.toList.length), j < k -> V.nmAt j s.data.toList[j] = true) (fun iv => s.size - (intOf iv).toNat)
 case atStart => exact ⟨0, Nat.zero_le _, rfl, fun j _ h => absurd h (Nat.not_lt_zero _)⟩
 case round =>
  obtain ⟨k, hk, rfl, hat⟩ := hrel
  have HAT := zvq hat
  clear hat
  by_cases hlt : k < s.size
  ·have he : s.data.toList[k]'(by have := HL.out; omega) = s[k] := by simp; rfl
   have HNO := zvq (V.zpl (s := s.data.toList) (k := k) (by have := HL.out; omega))
   have HST : Hid (V.nmAt k s[k] = true -> ∀ j (h : j < s.data.toList.length), j < k + 1 -> V.nmAt j s.data.toList[j] = true) := zvq (fun hy j h hj => by
     by_cases hjk : j < k
     · exact HAT.out j h hjk
     · obtain rfl : j = k := by omega
       rw [he]; exact hy)
   rw [he] at HNO
   clear he HAT
   have HZK : Hid (k = 0 -> s[k].toNat ≠ 46 /\ s[k].toNat ≠ 95 /\ s[k].toNat ≠ 45) := zvq (fun e => by subst e; exact HZ.out)
   have i1 : (0 : Int) ≤ (k : Int) := by omega
   have i2 : (k : Int) < (s.size : Int) := by omega
   have wr1 : IntKind.i64.wrap ((k : Int) + 1) = (k : Int) + 1 := IntWalk.i64_in _ (by omega)
   have hcl : (s[k].toNat < 48 /\ s[k].toNat ≠ 45 /\ s[k].toNat ≠ 46) ∨ (s[k].toNat = 45) ∨ (s[k].toNat = 46) ∨ (48 ≤ s[k].toNat /\ s[k].toNat ≤ 57) ∨ (58 ≤ s[k].toNat /\ s[k].toNat < 97 /\ s[k].toNat ≠ 95) ∨ (s[k].toNat = 95) ∨ (97 ≤ s[k].toNat /\ s[k].toNat ≤ 122) ∨ (123 ≤ s[k].toNat) := by omega
   rcases hcl with hc | hc | hc | hc | hc | hc | hc | hc
   ·have HP := zvq (HNO.out (by simp [V.nmAt, V.nmA, V.nmP]; omega))
    have f0 : ¬ (97 : Int) ≤ (s[k].toNat : Int) := by omega
    have f1 : (s[k].toNat : Int) ≤ 122 := by omega
    have f2 : ¬ (48 : Int) ≤ (s[k].toNat : Int) := by omega
    have f3 : (s[k].toNat : Int) ≤ 57 := by omega
    exact zv1
   ·have HY := zvq (HST.out (by
      have hk0 : 0 < k := by
        exact z0z
      simp [V.nmAt, V.nmP, hc, hk0]))
    have f0 : ¬ (97 : Int) ≤ (s[k].toNat : Int) := by omega
    have f1 : (s[k].toNat : Int) ≤ 122 := by omega
    have f2 : ¬ (48 : Int) ≤ (s[k].toNat : Int) := by omega
    have f3 : (s[k].toNat : Int) ≤ 57 := by omega
    have f4 : ¬ (s[k].toNat : Int) = 46 := by omega
    have f5 : ((s[k].toNat : Int) == 46) = false := by rw [zvu]; omega
    have f6 : ¬ (s[k].toNat : Int) = 95 := by omega
    have f7 : ((s[k].toNat : Int) == 95) = false := by rw [zvu]; omega
    have f8 : (s[k].toNat : Int) = 45 := by omega
    exact zwz
   ·have HY := zvq (HST.out (by
      have hk0 : 0 < k := by
        exact z0z
      simp [V.nmAt, V.nmP, hc, hk0]))
    have f0 : ¬ (97 : Int) ≤ (s[k].toNat : Int) := by omega
    have f1 : (s[k].toNat : Int) ≤ 122 := by omega
    have f2 : ¬ (48 : Int) ≤ (s[k].toNat : Int) := by omega
    have f3 : (s[k].toNat : Int) ≤ 57 := by omega
    have f4 : (s[k].toNat : Int) = 46 := by omega
    have f5 : ¬ (s[k].toNat : Int) = 95 := by omega
    have f6 : ((s[k].toNat : Int) == 95) = false := by rw [zvu]; omega
    have f7 : ¬ (s[k].toNat : Int) = 45 := by omega
    have f8 : ((s[k].toNat : Int) == 45) = false := by rw [zvu]; omega
    exact zwz
   ·have HY := zvq (HST.out (by simp [V.nmAt, V.nmA, hc]))
    have f0 : ¬ (97 : Int) ≤ (s[k].toNat : Int) := by omega
    have f1 : (s[k].toNat : Int) ≤ 122 := by omega
    have f2 : (48 : Int) ≤ (s[k].toNat : Int) := by omega
    have f3 : (s[k].toNat : Int) ≤ 57 := by omega
    exact zwh
   ·have HP := zvq (HNO.out (by simp [V.nmAt, V.nmA, V.nmP]; omega))
    have f0 : ¬ (97 : Int) ≤ (s[k].toNat : Int) := by omega
    have f1 : (s[k].toNat : Int) ≤ 122 := by omega
    have f2 : (48 : Int) ≤ (s[k].toNat : Int) := by omega
    have f3 : ¬ (s[k].toNat : Int) ≤ 57 := by omega
    exact zv1
   ·have HY := zvq (HST.out (by
      have hk0 : 0 < k := by
        exact z0z
      simp [V.nmAt, V.nmP, hc, hk0]))
    have f0 : ¬ (97 : Int) ≤ (s[k].toNat : Int) := by omega
    have f1 : (s[k].toNat : Int) ≤ 122 := by omega
    have f2 : (48 : Int) ≤ (s[k].toNat : Int) := by omega
    have f3 : ¬ (s[k].toNat : Int) ≤ 57 := by omega
    have f4 : ¬ (s[k].toNat : Int) = 46 := by omega
    have f5 : ((s[k].toNat : Int) == 46) = false := by rw [zvu]; omega
    have f6 : (s[k].toNat : Int) = 95 := by omega
    have f7 : ¬ (s[k].toNat : Int) = 45 := by omega
    have f8 : ((s[k].toNat : Int) == 45) = false := by rw [zvu]; omega
    exact zwz
   ·have HY := zvq (HST.out (by simp [V.nmAt, V.nmA, hc]))
    have f0 : (97 : Int) ≤ (s[k].toNat : Int) := by omega
    have f1 : (s[k].toNat : Int) ≤ 122 := by omega
    have f2 : (48 : Int) ≤ (s[k].toNat : Int) := by omega
    have f3 : ¬ (s[k].toNat : Int) ≤ 57 := by omega
    exact zwh
   ·have HP := zvq (HNO.out (by simp [V.nmAt, V.nmA, V.nmP]; omega))
    have f0 : (97 : Int) ≤ (s[k].toNat : Int) := by omega
    have f1 : ¬ (s[k].toNat : Int) ≤ 122 := by omega
    have f2 : (48 : Int) ≤ (s[k].toNat : Int) := by omega
    have f3 : ¬ (s[k].toNat : Int) ≤ 57 := by omega
    exact zv1
  ·obtain rfl : k = s.size := by omega
   have HP : Hid (V.xz s.data.toList = true) := zvq (decide_eq_true ⟨by have := HL.out; omega, by have := HL.out; omega, fun j h => HAT.out j h (by have := HL.out; omega)⟩)
   exact zyf
theorem zf4 (l : V.Bs) (c : UInt8) : (0 ≤ Lib.indexByte l c) ↔ c ∈ l := decide_eq_decide.1 (V.xx l c)
theorem zc2 {s : V.Bs} (h : s.length < 1 ∨ 200 < s.length) : V.xi s = false := by
 unfold V.xi
 rcases h with h | h
 ·have : decide (1 ≤ s.length) = false := decide_eq_false (by omega)
  rw [this]; rfl
 ·have : decide (s.length ≤ 200) = false := decide_eq_false (by omega)
  rw [this]; simp
theorem zm0 {s : V.Bs} (h : (0 : UInt8) ∈ s) : V.xi s = false := by
 unfold V.xi; simp [h]
theorem zm7 {s : V.Bs} (h1 : 1 ≤ s.length) (h2 : s.length ≤ 200) (h3 : (0 : UInt8) ∉ s) : V.xi s = V.vu s := by
 unfold V.xi; simp [h1, h2, h3]
theorem zy0 {P : Prop} (h : P := by
 have HE := zvq e
 clear HD e
 go_wp2
 go_ret
 refine ⟨zc ?_, HB1.out⟩
 rw [HP.out, if_pos (by trivial), HC.out, HE.out]
 cases more <;> rfl) : P := h
theorem z0u {P : Prop} (h : P := by
 go_enter Tryz.func62, Tryz.ntmps62
 go_wp2
 go_ret
 exact ⟨zc HR.out.symm, zvt _ _⟩) : P := h
theorem path_any (s : ByteArray) (w : World) (hm : zg w) (hs : s.size ≤ maxLen) :
  Calls Tryz.prog 62 #[.string s] w fun e w' => e = .returned (.bool (V.xi s.data.toList)) /\ Below w.heap.size w w' := by
 have HM := zvq hm
 unfold maxLen at hs
 clear hm
 by_cases h1 : s.size < 1
 ·have HR := zvq (zc2 (s := s.data.toList) (.inl (by rw [zf]; exact h1)))
  exact z0u
 ·by_cases h2 : 200 < s.size
  ·have HR := zvq (zc2 (s := s.data.toList) (.inr (by rw [zf]; exact h2)))
   exact z0u
  ·have h1' : 1 ≤ s.size := by omega
   have h2' : s.size ≤ 200 := by omega
   clear h1 h2
   by_cases hz : (0 : UInt8) ∈ s.data.toList
   ·have HR := zvq (zm0 hz)
    have HI : 0 ≤ Lib.indexByte s.data.toList 0 := (zf4 s.data.toList 0).2 hz
    clear hz
    go_enter Tryz.func62, Tryz.ntmps62
    go_wp2_with fail
    refine (Tryz.strings_IndexByte s 0 _).mono ?_
    rintro e w' ⟨rfl, rfl⟩
    rw [show ((0 : Int).toNat.toUInt8) = (0 : UInt8) from rfl]
    generalize Lib.indexByte s.data.toList 0 = ib at *
    go_wp2
    go_ret
    exact ⟨zc HR.out.symm, zvt _ _⟩
   ·have HR := zvq (zm7 (s := s.data.toList) (by rw [zf]; exact h1') (by rw [zf]; exact h2') hz)
    have HI : ¬ 0 ≤ Lib.indexByte s.data.toList 0 := fun g => hz ((zf4 s.data.toList 0).1 g)
    clear hz
    go_enter Tryz.func62, Tryz.ntmps62
    go_wp2_with fail
    refine (Tryz.strings_IndexByte s 0 _).mono ?_
    rintro e w' ⟨rfl, rfl⟩
    rw [show ((0 : Int).toNat.toUInt8) = (0 : UInt8) from rfl]
    generalize Lib.indexByte s.data.toList 0 = ib at *
    go_wp2
    go_loopw [0, 3] (fun sv mo wr => ∃ (x : ByteArray) (more : Bool), sv = .string x /\ mo = .bool more /\ x.size ≤ s.size /\ V.xi s.data.toList = (if more then V.vu x.data.toList else true) /\ Below w'.heap.size w' wr) (fun sv mo _ => (match sv with | .string x => x.size | _ => 0) + (match mo with | .bool true => 1 | _ => 0))
    case atStart => exact ⟨s, true, rfl, rfl, zvs _, HR.out, zvt _ _⟩
    case round =>
     obtain ⟨x, more, rfl, rfl, hx, hp, hb⟩ := hrel
     have HB := zvq hb
     have HP := zvq hp
     clear hb hp
     rcases more with _ | _
     ·go_wp2
      go_ret
      exact ⟨zc HP.out.symm, HB.out⟩
     ·have hcl := uh 47 x.data.toList
      have HC := zvq (V.zvh x.data.toList)
      have HD := zvq (V.zgi (V.cut1 47 x.data.toList).1)
      have HS : Hid ((V.cut1 47 x.data.toList).2.2 = true -> (V.cut1 47 x.data.toList).2.1.length < x.size) := zvq (fun h => by
        have := congrArg List.length (V.zn0 47 x.data.toList h)
        rw [zf] at this
        simp at this; omega)
      rw [zf] at hcl
      go_wp2_with fail
      refine (zdb x 47 _ (HM.out.below HB.out) (by omega)).mono ?_
      rintro e w1 ⟨rfl, hb1⟩
      have HB1 := zvr HB hb1
      clear hb1
      generalize (V.cut1 47 x.data.toList).1 = p at *
      generalize (V.cut1 47 x.data.toList).2.1 = q at *
      generalize (V.cut1 47 x.data.toList).2.2 = more at *
      rcases HD.out with ⟨rfl, e⟩ | ⟨rfl, e⟩ | ⟨rfl, e⟩ | ⟨e1, e2, e3, e⟩
      ·exact zy0
      ·exact zy0
      ·exact zy0
      ·have HE := zvq e
       clear HD e
       have HT : Hid (V.xi s.data.toList = if more then V.vu q else true) := zvq (by
         rw [HP.out, if_pos (by trivial), HC.out, HE.out]; cases more <;> rfl)
       clear HC HP
       go_wp2
       go_roundw
       case rel => exact ⟨⟨q.toArray⟩, more, rfl, rfl, by show q.toArray.size ≤ _; simp; omega, by rw [wl]; exact HT.out, HB1.out⟩
       case measure =>
        have hq : (⟨q.toArray⟩ : ByteArray).size = q.length := by show q.toArray.size = _; simp
        have := HS.out
        rcases more with _ | _
        ·simp [hq]; omega
        ·have := this rfl
         simp [hq]; omega
open Go.RowKit
theorem zzt {P : Prop} (h : P := by
 have HE := zvq (HIn.out e)
 clear HD e
 go_wp2
 go_ret
 exact ⟨zc (by rw [HA.out, HE.out]), HB1.out⟩) : P := h
theorem z0a {P : Prop} (h : P := by
 go_enter Tryz.func35, Tryz.ntmps35
 go_wp2
 go_ret
 exact ⟨zc HR.out.symm, zvt _ _⟩) : P := h
theorem zu8 (s : ByteArray) (w : World) (hm : zg w) (hs : s.size ≤ maxLen) :
  Calls Tryz.prog 35 #[.string s] w fun e w' => e = .returned (.bool (V.xi s.data.toList)) /\ Below w.heap.size w w' := by
 have HM := zvq hm
 unfold maxLen at hs
 clear hm
 by_cases h1 : s.size < 1
 ·have HR := zvq (zc2 (s := s.data.toList) (.inl (by rw [zf]; exact h1)))
  have he : s = ⟨#[]⟩ := jj (by
    have : s.data.toList = [] := List.eq_nil_of_length_eq_zero (by rw [zf]; omega)
    rw [this])
  subst he
  exact z0a
 ·have hne : s.toList.isEmpty = false := by
   rw [Lib.toList_data]
   rcases hd : s.data.toList with _ | ⟨c, r⟩
   ·have := zf s; rw [hd] at this; simp at this; omega
   ·rfl
  have hne' : ¬ s.toList = [] := by simpa using hne
  by_cases h2 : 200 < s.size
  ·have HR := zvq (zc2 (s := s.data.toList) (.inr (by rw [zf]; exact h2)))
   exact z0a
  ·have h1' : 1 ≤ s.size := by omega
   have h2' : s.size ≤ 200 := by omega
   clear h1 h2
   go_enter Tryz.func35, Tryz.ntmps35
   go_wp2
   go_loop [3] (fun i => ∃ k : Nat, k ≤ s.size /\ i = .int .i64 k /\ (s.data.toList.take k).all (fun c => c != 0) = true) (fun i => s.size - (intOf i).toNat)
   case atStart => exact ⟨0, Nat.zero_le _, rfl, rfl⟩
   case round =>
    obtain ⟨k, hk, rfl, hp⟩ := hrel
    have HP := zvq hp
    clear hp
    by_cases hlt : k < s.size
    ·have hl : k < s.data.toList.length := by rw [zf]; exact hlt
     have HT := zvq (V.zcs (p := fun c => c != 0) hl)
     have he : s.data.toList[k] = s[k] := by simp; rfl
     by_cases h0 : s[k] = 0
     ·have HR := zvq (zm0 (s := s.data.toList) (by rw [← h0, ← he]; exact List.getElem_mem _))
      have h0' : ((s[k]).toNat : Int) = 0 := by rw [h0]; rfl
      clear he
      go_wp2
      go_ret
      exact ⟨zc HR.out.symm, zvt _ _⟩
     ·have h0' : ¬ ((s[k]).toNat : Int) = 0 := fun e => h0 (UInt8.toNat_inj.1 (show (s[k]).toNat = 0 by omega))
      have HN : Hid ((s[k] != 0) = true) := zvq (by simpa using h0)
      have HE := zvq he
      clear he
      go_wp2
      go_round
      case rel => exact ⟨k + 1, by omega, by go_num, by rw [HT.out, HP.out, HE.out, HN.out]; rfl⟩
      case measure => simp [intOf]; omega
    ·have hz : (0 : UInt8) ∉ s.data.toList := by
      have hp := HP.out
      rw [List.take_of_length_le (by rw [zf]; omega), List.all_eq_true] at hp
      intro g
      have := hp 0 g
      simp at this
     have HR := zvq (zm7 (s := s.data.toList) (by rw [zf]; exact h1') (by rw [zf]; exact h2') hz)
     clear hz HP
     go_wp2_with fail
     refine (kn s 47 _ HM.out (by omega)).mono ?_
     rintro e w1 ⟨rfl, hw1⟩
     have hs1 := Strs.split w (V.zd 47 s.data.toList) 9
     rw [← hw1] at hs1
     have hb1 : Below w.heap.size w w1 := by rw [hw1]; exact (zvt _ w).alloc (zvs _) _
     have HB1 := zvq hb1
     have HS := zvq hs1
     have HA : Hid (V.xi s.data.toList = (V.zd 47 s.data.toList).all V.uu) := HR
     have hnl : (V.zd 47 s.data.toList).length ≤ 201 := by have := jm 47 s.data.toList; rw [zf] at this; omega
     clear hw1 hs1 hb1
     generalize V.zd 47 s.data.toList = P at *
     go_wp2
     go_loop [5] (fun i => ∃ k : Nat, k ≤ P.length /\ i = .int .i64 k /\ (P.take k).all V.uu = true) (fun i => P.length - (intOf i).toNat)
     case atStart => exact ⟨0, Nat.zero_le _, rfl, rfl⟩
     case round =>
      obtain ⟨k, hk, rfl, hp⟩ := hrel
      have HP := zvq hp
      clear hp
      by_cases hlt : k < P.length
      ·obtain ⟨b, off, e, _, hcell⟩ := HS.out.at k hlt
       cases e
       rw [Nat.zero_add] at hcell
       have HT := zvq (zed (p := V.uu) hlt)
       have hg : P.getD k [] = P[k] := by rw [List.getD_eq_getElem?_getD, List.getElem?_eq_getElem hlt]; rfl
       rw [hg] at hcell
       have HIn : Hid (V.uu P[k] = false -> P.all V.uu = false) := zvq fun h => by
        rw [← Bool.not_eq_true, List.all_eq_true]
        intro g
        rw [g _ (List.getElem_mem hlt)] at h; cases h
       have HD := zvq (V.zgi P[k])
       generalize P[k] = p at *
       clear hg
       rcases HD.out with ⟨rfl, e⟩ | ⟨rfl, e⟩ | ⟨rfl, e⟩ | ⟨e1, e2, e3, e⟩
       ·exact zzt
       ·exact zzt
       ·exact zzt
       ·have HE := zvq e
        clear HD e
        go_wp2
        go_round
        case rel => exact ⟨k + 1, by omega, by go_num, by rw [HT.out, HP.out, HE.out]; rfl⟩
        case measure => simp [intOf]; omega
      ·have hall := HP.out
       rw [List.take_of_length_le (by omega)] at hall
       have HL := zvq hall
       clear hall
       go_wp2
       go_ret
       exact ⟨zc (by rw [HA.out, HL.out]), HB1.out⟩
theorem zse (n : Int) (x y : V.Bs) (c : Int) (w : World) (hm : zg w) (hn : V.scheme n = true) (hx : V.valid n x = true) (hy : V.valid n y = true) (hc : V.cmpV n x y = c) :
  Calls Tryz.prog 118 #[.int .i64 n, .string ⟨x.toArray⟩, .string ⟨y.toArray⟩] w fun e w' => e = .returned (.tuple #[.int .i64 c, .int .i64 0]) /\ Below w.heap.size w w' := by
 have l1 := V.vg hx
 have l2 := V.vg hy
 refine zsi n ⟨x.toArray⟩ ⟨y.toArray⟩ c 0 ?_ w hm (by show x.length ≤ _; unfold maxLen; omega) (by show y.length ≤ _; unfold maxLen; omega)
 simp only
 unfold V.qt
 rw [hn, hx, hy]
 simp only [Bool.not_true, Bool.false_eq_true, if_false, Bool.and_self, if_true, hc]
end Go.Proofs.YtiloljoancdcbaaGreatDoor

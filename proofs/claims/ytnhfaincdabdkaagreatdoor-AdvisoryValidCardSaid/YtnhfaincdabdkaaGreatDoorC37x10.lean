/-
  Lemmas for the law.
-/
import Derived.Test.YtnhfaincdabdkaaGreatDoorC37x09
import Derived.Test.YtnhfaincdabdkaaGreatDoorC37x07
import Derived.Test.YtnhfaincdabdkaaGreatDoorC37x03
import Derived.Test.YtnhfaincdabdkaaGreatDoorC37x06
set_option linter.all false
set_option maxRecDepth 100000
set_option maxHeartbeats 3200000
namespace Go.Proofs.YtnhfaincdabdkaaGreatDoor
open Go.RowKit
theorem ztg {P : Prop} (h : P := by
 have f4 : ¬ (s[k].toNat : Int) = 46 := by omega
 have f5 : ((s[k].toNat : Int) == 46) = false := by rw [ztc]; omega
 have f6 : ¬ (s[k].toNat : Int) = 95 := by omega
 have f7 : ((s[k].toNat : Int) == 95) = false := by rw [ztc]; omega
 have f8 : ¬ (s[k].toNat : Int) = 45 := by omega
 have f9 : ((s[k].toNat : Int) == 45) = false := by rw [ztc]; omega
 clear hc HNO HST
 go_wp2
 go_ret
 exact ⟨zc HP.out.symm, rfl⟩) : P := h
theorem ztp {P : Prop} (h : P := by
 have f4 : ¬ (s[k].toNat : Int) = 46 := by omega
 have f5 : ((s[k].toNat : Int) == 46) = false := by rw [ztc]; omega
 have f6 : ¬ (s[k].toNat : Int) = 95 := by omega
 have f7 : ((s[k].toNat : Int) == 95) = false := by rw [ztc]; omega
 have f8 : ¬ (s[k].toNat : Int) = 45 := by omega
 have f9 : ((s[k].toNat : Int) == 45) = false := by rw [ztc]; omega
 clear hc HNO HST
 go_wp2
 go_round
 case rel => exact ⟨k + 1, by omega, by go_num, HY.out⟩
 case measure => simp [intOf]; omega) : P := h
theorem zts {P : Prop} (h : P := by
 clear hc HNO HST
 go_wp2
 go_round
 case rel => exact ⟨k + 1, by omega, by go_num, HY.out⟩
 case measure => simp [intOf]; omega) : P := h
theorem zug {P : Prop} (h : P := by
 clear hc HNO HST
 go_wp2
 go_ret
 exact ⟨zc HP.out.symm, rfl⟩) : P := h
theorem zuo {P : Prop} (h : P := by
 go_wp2
 go_ret
 exact ⟨zc HP.out.symm, rfl⟩) : P := h
theorem zm4 (s : ByteArray) (w : World) (hs : s.size ≤ maxLen) : Calls Tryz.prog 69 #[.string s] w fun e w' => e = .returned (.bool (V.kw s.data.toList)) /\ w' = w := by
 have hl := zf s
 unfold maxLen at hs
 by_cases h0 : s.size = 0
 ·have hs0 : s = ⟨#[]⟩ := jr (by rw [List.length_eq_zero_iff.1 (by omega : s.data.toList.length = 0)])
  subst hs0
  go_enter Tryz.func69, Tryz.ntmps69
  go_wp2
  go_ret
  exact ⟨rfl, rfl⟩
 have q0 : ¬ (s.size : Int) < 1 := by omega
 have hne : s.data.toList ≠ [] := fun e => by rw [e] at hl; exact h0 hl.symm
 have hse : s.toList.isEmpty = false := by
  rw [Lib.toList_data]
  cases hq : s.data.toList with
  | nil => exact absurd hq hne
  | cons c r => rfl
 have hse2 : (s.data.toList == []) = false := by rw [ztc]; exact hne
 clear hne
 by_cases h64 : 64 < s.size
 ·have HP : Hid (V.kw s.data.toList = false) := zs8 (decide_eq_false fun hp => by have := hp.2.1; omega)
  have q1 : (64 : Int) < (s.size : Int) := by omega
  clear hl
  go_enter Tryz.func69, Tryz.ntmps69
  exact zuo
 have q1 : ¬ (64 : Int) < (s.size : Int) := by omega
 have HL := zs8 hl
 clear hl
 go_enter Tryz.func69, Tryz.ntmps69
 go_wp2
 go_loop [3] (fun iv => ∃ k : Nat, k ≤ s.size /\ iv = .int .i64 k /\ ∀ j (h : j < s.data.toList.length), j < k -> V.nmAt j s.data.toList[j] = true) (fun iv => s.size - (intOf iv).toNat)
 case atStart => exact ⟨0, Nat.zero_le _, rfl, fun j _ h => absurd h (Nat.not_lt_zero _)⟩
 case round =>
  obtain ⟨k, hk, rfl, hat⟩ := hrel
  have HAT := zs8 hat
  clear hat
  by_cases hlt : k < s.size
  ·have he : s.data.toList[k]'(by have := HL.out; omega) = s[k] := by simp; rfl
   have HNO := zs8 (V.zmf (s := s.data.toList) (k := k) (by have := HL.out; omega))
   have HST : Hid (V.nmAt k s[k] = true -> ∀ j (h : j < s.data.toList.length), j < k + 1 -> V.nmAt j s.data.toList[j] = true) := zs8 (fun hy j h hj => by
     by_cases hjk : j < k
     · exact HAT.out j h hjk
     · obtain rfl : j = k := by omega
       rw [he]; exact hy)
   rw [he] at HNO
   clear he HAT
   have i1 : (0 : Int) ≤ (k : Int) := by omega
   have i2 : (k : Int) < (s.size : Int) := by omega
   have wr1 : IntKind.i64.wrap ((k : Int) + 1) = (k : Int) + 1 := IntWalk.i64_in _ (by omega)
   have hcl : (s[k].toNat < 48 /\ s[k].toNat ≠ 45 /\ s[k].toNat ≠ 46) ∨ (s[k].toNat = 45) ∨ (s[k].toNat = 46) ∨ (48 ≤ s[k].toNat /\ s[k].toNat ≤ 57) ∨ (58 ≤ s[k].toNat /\ s[k].toNat < 97 /\ s[k].toNat ≠ 95) ∨ (s[k].toNat = 95) ∨ (97 ≤ s[k].toNat /\ s[k].toNat ≤ 122) ∨ (123 ≤ s[k].toNat) := by omega
   rcases hcl with hc | hc | hc | hc | hc | hc | hc | hc
   ·have HP := zs8 (HNO.out (by simp [V.nmAt, V.nmA, V.nmP]; omega))
    by_cases hk0 : 0 < k
    ·have j0 : (0 : Int) < (k : Int) := by omega
     have f0 : ¬ (97 : Int) ≤ (s[k].toNat : Int) := by omega
     have f1 : (s[k].toNat : Int) ≤ 122 := by omega
     have f2 : ¬ (48 : Int) ≤ (s[k].toNat : Int) := by omega
     have f3 : (s[k].toNat : Int) ≤ 57 := by omega
     exact ztg
    ·have j0 : ¬ (0 : Int) < (k : Int) := by omega
     have f0 : ¬ (97 : Int) ≤ (s[k].toNat : Int) := by omega
     have f1 : (s[k].toNat : Int) ≤ 122 := by omega
     have f2 : ¬ (48 : Int) ≤ (s[k].toNat : Int) := by omega
     have f3 : (s[k].toNat : Int) ≤ 57 := by omega
     exact ztg
   ·by_cases hk0 : 0 < k
    ·have HY := zs8 (HST.out (by simp [V.nmAt, V.nmP, hc, hk0]))
     have j0 : (0 : Int) < (k : Int) := by omega
     have f0 : ¬ (97 : Int) ≤ (s[k].toNat : Int) := by omega
     have f1 : (s[k].toNat : Int) ≤ 122 := by omega
     have f2 : ¬ (48 : Int) ≤ (s[k].toNat : Int) := by omega
     have f3 : (s[k].toNat : Int) ≤ 57 := by omega
     have f4 : ¬ (s[k].toNat : Int) = 46 := by omega
     have f5 : ((s[k].toNat : Int) == 46) = false := by rw [ztc]; omega
     have f6 : ¬ (s[k].toNat : Int) = 95 := by omega
     have f7 : ((s[k].toNat : Int) == 95) = false := by rw [ztc]; omega
     have f8 : (s[k].toNat : Int) = 45 := by omega
     exact zts
    ·have HP := zs8 (HNO.out (by simp [V.nmAt, V.nmA, hc, hk0]))
     have j0 : ¬ (0 : Int) < (k : Int) := by omega
     have f0 : ¬ (97 : Int) ≤ (s[k].toNat : Int) := by omega
     have f1 : (s[k].toNat : Int) ≤ 122 := by omega
     have f2 : ¬ (48 : Int) ≤ (s[k].toNat : Int) := by omega
     have f3 : (s[k].toNat : Int) ≤ 57 := by omega
     have f4 : ¬ (s[k].toNat : Int) = 46 := by omega
     have f5 : ((s[k].toNat : Int) == 46) = false := by rw [ztc]; omega
     have f6 : ¬ (s[k].toNat : Int) = 95 := by omega
     have f7 : ((s[k].toNat : Int) == 95) = false := by rw [ztc]; omega
     have f8 : (s[k].toNat : Int) = 45 := by omega
     exact zug
   ·by_cases hk0 : 0 < k
    ·have HY := zs8 (HST.out (by simp [V.nmAt, V.nmP, hc, hk0]))
     have j0 : (0 : Int) < (k : Int) := by omega
     have f0 : ¬ (97 : Int) ≤ (s[k].toNat : Int) := by omega
     have f1 : (s[k].toNat : Int) ≤ 122 := by omega
     have f2 : ¬ (48 : Int) ≤ (s[k].toNat : Int) := by omega
     have f3 : (s[k].toNat : Int) ≤ 57 := by omega
     have f4 : (s[k].toNat : Int) = 46 := by omega
     have f5 : ¬ (s[k].toNat : Int) = 95 := by omega
     have f6 : ((s[k].toNat : Int) == 95) = false := by rw [ztc]; omega
     have f7 : ¬ (s[k].toNat : Int) = 45 := by omega
     have f8 : ((s[k].toNat : Int) == 45) = false := by rw [ztc]; omega
     exact zts
    ·have HP := zs8 (HNO.out (by simp [V.nmAt, V.nmA, hc, hk0]))
     have j0 : ¬ (0 : Int) < (k : Int) := by omega
     have f0 : ¬ (97 : Int) ≤ (s[k].toNat : Int) := by omega
     have f1 : (s[k].toNat : Int) ≤ 122 := by omega
     have f2 : ¬ (48 : Int) ≤ (s[k].toNat : Int) := by omega
     have f3 : (s[k].toNat : Int) ≤ 57 := by omega
     have f4 : (s[k].toNat : Int) = 46 := by omega
     have f5 : ¬ (s[k].toNat : Int) = 95 := by omega
     have f6 : ((s[k].toNat : Int) == 95) = false := by rw [ztc]; omega
     have f7 : ¬ (s[k].toNat : Int) = 45 := by omega
     have f8 : ((s[k].toNat : Int) == 45) = false := by rw [ztc]; omega
     exact zug
   ·have HY := zs8 (HST.out (by simp [V.nmAt, V.nmA, hc]))
    have f0 : ¬ (97 : Int) ≤ (s[k].toNat : Int) := by omega
    have f1 : (s[k].toNat : Int) ≤ 122 := by omega
    have f2 : (48 : Int) ≤ (s[k].toNat : Int) := by omega
    have f3 : (s[k].toNat : Int) ≤ 57 := by omega
    exact ztp
   ·have HP := zs8 (HNO.out (by simp [V.nmAt, V.nmA, V.nmP]; omega))
    by_cases hk0 : 0 < k
    ·have j0 : (0 : Int) < (k : Int) := by omega
     have f0 : ¬ (97 : Int) ≤ (s[k].toNat : Int) := by omega
     have f1 : (s[k].toNat : Int) ≤ 122 := by omega
     have f2 : (48 : Int) ≤ (s[k].toNat : Int) := by omega
     have f3 : ¬ (s[k].toNat : Int) ≤ 57 := by omega
     exact ztg
    ·have j0 : ¬ (0 : Int) < (k : Int) := by omega
     have f0 : ¬ (97 : Int) ≤ (s[k].toNat : Int) := by omega
     have f1 : (s[k].toNat : Int) ≤ 122 := by omega
     have f2 : (48 : Int) ≤ (s[k].toNat : Int) := by omega
     have f3 : ¬ (s[k].toNat : Int) ≤ 57 := by omega
     exact ztg
   ·by_cases hk0 : 0 < k
    ·have HY := zs8 (HST.out (by simp [V.nmAt, V.nmP, hc, hk0]))
     have j0 : (0 : Int) < (k : Int) := by omega
     have f0 : ¬ (97 : Int) ≤ (s[k].toNat : Int) := by omega
     have f1 : (s[k].toNat : Int) ≤ 122 := by omega
     have f2 : (48 : Int) ≤ (s[k].toNat : Int) := by omega
     have f3 : ¬ (s[k].toNat : Int) ≤ 57 := by omega
     have f4 : ¬ (s[k].toNat : Int) = 46 := by omega
     have f5 : ((s[k].toNat : Int) == 46) = false := by rw [ztc]; omega
     have f6 : (s[k].toNat : Int) = 95 := by omega
     have f7 : ¬ (s[k].toNat : Int) = 45 := by omega
     have f8 : ((s[k].toNat : Int) == 45) = false := by rw [ztc]; omega
     exact zts
    ·have HP := zs8 (HNO.out (by simp [V.nmAt, V.nmA, hc, hk0]))
     have j0 : ¬ (0 : Int) < (k : Int) := by omega
     have f0 : ¬ (97 : Int) ≤ (s[k].toNat : Int) := by omega
     have f1 : (s[k].toNat : Int) ≤ 122 := by omega
     have f2 : (48 : Int) ≤ (s[k].toNat : Int) := by omega
     have f3 : ¬ (s[k].toNat : Int) ≤ 57 := by omega
     have f4 : ¬ (s[k].toNat : Int) = 46 := by omega
     have f5 : ((s[k].toNat : Int) == 46) = false := by rw [ztc]; omega
     have f6 : (s[k].toNat : Int) = 95 := by omega
     have f7 : ¬ (s[k].toNat : Int) = 45 := by omega
     have f8 : ((s[k].toNat : Int) == 45) = false := by rw [ztc]; omega
     exact zug
   ·have HY := zs8 (HST.out (by simp [V.nmAt, V.nmA, hc]))
    have f0 : (97 : Int) ≤ (s[k].toNat : Int) := by omega
    have f1 : (s[k].toNat : Int) ≤ 122 := by omega
    have f2 : (48 : Int) ≤ (s[k].toNat : Int) := by omega
    have f3 : ¬ (s[k].toNat : Int) ≤ 57 := by omega
    exact ztp
   ·have HP := zs8 (HNO.out (by simp [V.nmAt, V.nmA, V.nmP]; omega))
    by_cases hk0 : 0 < k
    ·have j0 : (0 : Int) < (k : Int) := by omega
     have f0 : (97 : Int) ≤ (s[k].toNat : Int) := by omega
     have f1 : ¬ (s[k].toNat : Int) ≤ 122 := by omega
     have f2 : (48 : Int) ≤ (s[k].toNat : Int) := by omega
     have f3 : ¬ (s[k].toNat : Int) ≤ 57 := by omega
     exact ztg
    ·have j0 : ¬ (0 : Int) < (k : Int) := by omega
     have f0 : (97 : Int) ≤ (s[k].toNat : Int) := by omega
     have f1 : ¬ (s[k].toNat : Int) ≤ 122 := by omega
     have f2 : (48 : Int) ≤ (s[k].toNat : Int) := by omega
     have f3 : ¬ (s[k].toNat : Int) ≤ 57 := by omega
     exact ztg
  ·obtain rfl : k = s.size := by omega
   have HP : Hid (V.kw s.data.toList = true) := zs8 (decide_eq_true ⟨by have := HL.out; omega, by have := HL.out; omega, fun j h => HAT.out j h (by have := HL.out; omega)⟩)
   exact zuo
theorem zui {P : Prop} (h : P := by
 go_enter Tryz.func72, Tryz.ntmps72
 go_wp2
 go_ret
 exact ⟨zc HP.out.symm, rfl⟩) : P := h
theorem zw4 {P : Prop} (h : P := by
 rcases Nat.eq_zero_or_pos k with e | e
 · have := HZK.out e; omega
 · exact e) : P := h
theorem zld (s : ByteArray) (w : World) (hs : s.size ≤ maxLen) : Calls Tryz.prog 72 #[.string s] w fun e w' => e = .returned (.bool (V.kw s.data.toList)) /\ w' = w := by
 have hl := zf s
 unfold maxLen at hs
 by_cases h0 : s.size = 0
 ·have hs0 : s = ⟨#[]⟩ := jr (by rw [List.length_eq_zero_iff.1 (by omega : s.data.toList.length = 0)])
  subst hs0
  go_enter Tryz.func72, Tryz.ntmps72
  go_wp2
  go_ret
  exact ⟨rfl, rfl⟩
 have q0 : ¬ (s.size : Int) < 1 := by omega
 have hne : s.data.toList ≠ [] := fun e => by rw [e] at hl; exact h0 hl.symm
 have hse : s.toList.isEmpty = false := by
  rw [Lib.toList_data]
  cases hq : s.data.toList with
  | nil => exact absurd hq hne
  | cons c r => rfl
 have hse2 : (s.data.toList == []) = false := by rw [ztc]; exact hne
 clear hne
 by_cases h64 : 64 < s.size
 ·have HP : Hid (V.kw s.data.toList = false) := zs8 (decide_eq_false fun hp => by have := hp.2.1; omega)
  have q1 : (64 : Int) < (s.size : Int) := by omega
  clear hl
  exact zui
 have q1 : ¬ (64 : Int) < (s.size : Int) := by omega
 have HL := zs8 hl
 have i00 : 0 < s.size := by omega
 have he0 : s.data.toList[0]'(by omega) = s[0]'i00 := by simp; rfl
 have HN0 := zs8 (V.zmf (s := s.data.toList) (k := 0) (by omega))
 rw [he0] at HN0
 clear he0 hl
 have i0 : (0 : Int) < (s.size : Int) := by omega
 by_cases z46 : (s[0]'i00).toNat = 46
 ·have HP : Hid (V.kw s.data.toList = false) := zs8 (HN0.out (by simp [V.nmAt, V.nmA, V.nmP, z46]))
  have y46 : ((s[0]'i00).toNat : Int) = 46 := by omega
  clear z46
  exact zui
 have y46 : ¬ ((s[0]'i00).toNat : Int) = 46 := by omega
 have x46 : (((s[0]'i00).toNat : Int) == 46) = false := by rw [ztc]; exact y46
 by_cases z95 : (s[0]'i00).toNat = 95
 ·have HP : Hid (V.kw s.data.toList = false) := zs8 (HN0.out (by simp [V.nmAt, V.nmA, V.nmP, z95]))
  have y95 : ((s[0]'i00).toNat : Int) = 95 := by omega
  clear z95
  exact zui
 have y95 : ¬ ((s[0]'i00).toNat : Int) = 95 := by omega
 have x95 : (((s[0]'i00).toNat : Int) == 95) = false := by rw [ztc]; exact y95
 by_cases z45 : (s[0]'i00).toNat = 45
 ·have HP : Hid (V.kw s.data.toList = false) := zs8 (HN0.out (by simp [V.nmAt, V.nmA, V.nmP, z45]))
  have y45 : ((s[0]'i00).toNat : Int) = 45 := by omega
  clear z45
  exact zui
 have y45 : ¬ ((s[0]'i00).toNat : Int) = 45 := by omega
 have x45 : (((s[0]'i00).toNat : Int) == 45) = false := by rw [ztc]; exact y45
 have HZ := zs8 (And.intro z46 (And.intro z95 z45))
 clear z46 z95 z45 HN0
 go_enter Tryz.func72, Tryz.ntmps72
 go_wp2
 go_loop [3] (fun iv => ∃ k : Nat, k ≤ s.size /\ iv = .int .i64 k /\ ∀ j (h : j < s.data.toList.length), j < k -> V.nmAt j s.data.toList[j] = true) (fun iv => s.size - (intOf iv).toNat)
 case atStart => exact ⟨0, Nat.zero_le _, rfl, fun j _ h => absurd h (Nat.not_lt_zero _)⟩
 case round =>
  obtain ⟨k, hk, rfl, hat⟩ := hrel
  have HAT := zs8 hat
  clear hat
  by_cases hlt : k < s.size
  ·have he : s.data.toList[k]'(by have := HL.out; omega) = s[k] := by simp; rfl
   have HNO := zs8 (V.zmf (s := s.data.toList) (k := k) (by have := HL.out; omega))
   have HST : Hid (V.nmAt k s[k] = true -> ∀ j (h : j < s.data.toList.length), j < k + 1 -> V.nmAt j s.data.toList[j] = true) := zs8 (fun hy j h hj => by
     by_cases hjk : j < k
     · exact HAT.out j h hjk
     · obtain rfl : j = k := by omega
       rw [he]; exact hy)
   rw [he] at HNO
   clear he HAT
   have HZK : Hid (k = 0 -> s[k].toNat ≠ 46 /\ s[k].toNat ≠ 95 /\ s[k].toNat ≠ 45) := zs8 (fun e => by subst e; exact HZ.out)
   have i1 : (0 : Int) ≤ (k : Int) := by omega
   have i2 : (k : Int) < (s.size : Int) := by omega
   have wr1 : IntKind.i64.wrap ((k : Int) + 1) = (k : Int) + 1 := IntWalk.i64_in _ (by omega)
   have hcl : (s[k].toNat < 48 /\ s[k].toNat ≠ 45 /\ s[k].toNat ≠ 46) ∨ (s[k].toNat = 45) ∨ (s[k].toNat = 46) ∨ (48 ≤ s[k].toNat /\ s[k].toNat ≤ 57) ∨ (58 ≤ s[k].toNat /\ s[k].toNat < 97 /\ s[k].toNat ≠ 95) ∨ (s[k].toNat = 95) ∨ (97 ≤ s[k].toNat /\ s[k].toNat ≤ 122) ∨ (123 ≤ s[k].toNat) := by omega
   rcases hcl with hc | hc | hc | hc | hc | hc | hc | hc
   ·have HP := zs8 (HNO.out (by simp [V.nmAt, V.nmA, V.nmP]; omega))
    have f0 : ¬ (97 : Int) ≤ (s[k].toNat : Int) := by omega
    have f1 : (s[k].toNat : Int) ≤ 122 := by omega
    have f2 : ¬ (48 : Int) ≤ (s[k].toNat : Int) := by omega
    have f3 : (s[k].toNat : Int) ≤ 57 := by omega
    exact ztg
   ·have HY := zs8 (HST.out (by
      have hk0 : 0 < k := by
        exact zw4
      simp [V.nmAt, V.nmP, hc, hk0]))
    have f0 : ¬ (97 : Int) ≤ (s[k].toNat : Int) := by omega
    have f1 : (s[k].toNat : Int) ≤ 122 := by omega
    have f2 : ¬ (48 : Int) ≤ (s[k].toNat : Int) := by omega
    have f3 : (s[k].toNat : Int) ≤ 57 := by omega
    have f4 : ¬ (s[k].toNat : Int) = 46 := by omega
    have f5 : ((s[k].toNat : Int) == 46) = false := by rw [ztc]; omega
    have f6 : ¬ (s[k].toNat : Int) = 95 := by omega
    have f7 : ((s[k].toNat : Int) == 95) = false := by rw [ztc]; omega
    have f8 : (s[k].toNat : Int) = 45 := by omega
    exact zts
   ·have HY := zs8 (HST.out (by
      have hk0 : 0 < k := by
        exact zw4
      simp [V.nmAt, V.nmP, hc, hk0]))
    have f0 : ¬ (97 : Int) ≤ (s[k].toNat : Int) := by omega
    have f1 : (s[k].toNat : Int) ≤ 122 := by omega
    have f2 : ¬ (48 : Int) ≤ (s[k].toNat : Int) := by omega
    have f3 : (s[k].toNat : Int) ≤ 57 := by omega
    have f4 : (s[k].toNat : Int) = 46 := by omega
    have f5 : ¬ (s[k].toNat : Int) = 95 := by omega
    have f6 : ((s[k].toNat : Int) == 95) = false := by rw [ztc]; omega
    have f7 : ¬ (s[k].toNat : Int) = 45 := by omega
    have f8 : ((s[k].toNat : Int) == 45) = false := by rw [ztc]; omega
    exact zts
   ·have HY := zs8 (HST.out (by simp [V.nmAt, V.nmA, hc]))
    have f0 : ¬ (97 : Int) ≤ (s[k].toNat : Int) := by omega
    have f1 : (s[k].toNat : Int) ≤ 122 := by omega
    have f2 : (48 : Int) ≤ (s[k].toNat : Int) := by omega
    have f3 : (s[k].toNat : Int) ≤ 57 := by omega
    exact ztp
   ·have HP := zs8 (HNO.out (by simp [V.nmAt, V.nmA, V.nmP]; omega))
    have f0 : ¬ (97 : Int) ≤ (s[k].toNat : Int) := by omega
    have f1 : (s[k].toNat : Int) ≤ 122 := by omega
    have f2 : (48 : Int) ≤ (s[k].toNat : Int) := by omega
    have f3 : ¬ (s[k].toNat : Int) ≤ 57 := by omega
    exact ztg
   ·have HY := zs8 (HST.out (by
      have hk0 : 0 < k := by
        exact zw4
      simp [V.nmAt, V.nmP, hc, hk0]))
    have f0 : ¬ (97 : Int) ≤ (s[k].toNat : Int) := by omega
    have f1 : (s[k].toNat : Int) ≤ 122 := by omega
    have f2 : (48 : Int) ≤ (s[k].toNat : Int) := by omega
    have f3 : ¬ (s[k].toNat : Int) ≤ 57 := by omega
    have f4 : ¬ (s[k].toNat : Int) = 46 := by omega
    have f5 : ((s[k].toNat : Int) == 46) = false := by rw [ztc]; omega
    have f6 : (s[k].toNat : Int) = 95 := by omega
    have f7 : ¬ (s[k].toNat : Int) = 45 := by omega
    have f8 : ((s[k].toNat : Int) == 45) = false := by rw [ztc]; omega
    exact zts
   ·have HY := zs8 (HST.out (by simp [V.nmAt, V.nmA, hc]))
    have f0 : (97 : Int) ≤ (s[k].toNat : Int) := by omega
    have f1 : (s[k].toNat : Int) ≤ 122 := by omega
    have f2 : (48 : Int) ≤ (s[k].toNat : Int) := by omega
    have f3 : ¬ (s[k].toNat : Int) ≤ 57 := by omega
    exact ztp
   ·have HP := zs8 (HNO.out (by simp [V.nmAt, V.nmA, V.nmP]; omega))
    have f0 : (97 : Int) ≤ (s[k].toNat : Int) := by omega
    have f1 : ¬ (s[k].toNat : Int) ≤ 122 := by omega
    have f2 : (48 : Int) ≤ (s[k].toNat : Int) := by omega
    have f3 : ¬ (s[k].toNat : Int) ≤ 57 := by omega
    exact ztg
  ·obtain rfl : k = s.size := by omega
   have HP : Hid (V.kw s.data.toList = true) := zs8 (decide_eq_true ⟨by have := HL.out; omega, by have := HL.out; omega, fun j h => HAT.out j h (by have := HL.out; omega)⟩)
   exact zuo
theorem zd4 (l : V.Bs) (c : UInt8) : (0 ≤ Lib.indexByte l c) ↔ c ∈ l := decide_eq_decide.1 (V.ku l c)
theorem zbg {s : V.Bs} (h : s.length < 1 ∨ 200 < s.length) : V.kl s = false := by
 unfold V.kl
 rcases h with h | h
 ·have : decide (1 ≤ s.length) = false := decide_eq_false (by omega)
  rw [this]; rfl
 ·have : decide (s.length ≤ 200) = false := decide_eq_false (by omega)
  rw [this]; simp
theorem zjs {s : V.Bs} (h : (0 : UInt8) ∈ s) : V.kl s = false := by
 unfold V.kl; simp [h]
theorem zj0 {s : V.Bs} (h1 : 1 ≤ s.length) (h2 : s.length ≤ 200) (h3 : (0 : UInt8) ∉ s) : V.kl s = V.ug s := by
 unfold V.kl; simp [h1, h2, h3]
theorem zu9 {P : Prop} (h : P := by
 have HE := zs8 e
 clear HD e
 go_wp2
 go_ret
 refine ⟨zc ?_, HB1.out⟩
 rw [HP.out, if_pos (by trivial), HC.out, HE.out]
 cases more <;> rfl) : P := h
theorem zwz {P : Prop} (h : P := by
 go_enter Tryz.func115, Tryz.ntmps115
 go_wp2
 go_ret
 exact ⟨zc HR.out.symm, ztb _ _⟩) : P := h
theorem path_any (s : ByteArray) (w : World) (hm : zk w) (hs : s.size ≤ maxLen) :
  Calls Tryz.prog 115 #[.string s] w fun e w' => e = .returned (.bool (V.kl s.data.toList)) /\ Below w.heap.size w w' := by
 have HM := zs8 hm
 unfold maxLen at hs
 clear hm
 by_cases h1 : s.size < 1
 ·have HR := zs8 (zbg (s := s.data.toList) (.inl (by rw [zf]; exact h1)))
  exact zwz
 ·by_cases h2 : 200 < s.size
  ·have HR := zs8 (zbg (s := s.data.toList) (.inr (by rw [zf]; exact h2)))
   exact zwz
  ·have h1' : 1 ≤ s.size := by omega
   have h2' : s.size ≤ 200 := by omega
   clear h1 h2
   by_cases hz : (0 : UInt8) ∈ s.data.toList
   ·have HR := zs8 (zjs hz)
    have HI : 0 ≤ Lib.indexByte s.data.toList 0 := (zd4 s.data.toList 0).2 hz
    clear hz
    go_enter Tryz.func115, Tryz.ntmps115
    go_wp2_with fail
    refine (Tryz.strings_IndexByte s 0 _).mono ?_
    rintro e w' ⟨rfl, rfl⟩
    rw [show ((0 : Int).toNat.toUInt8) = (0 : UInt8) from rfl]
    generalize Lib.indexByte s.data.toList 0 = ib at *
    go_wp2
    go_ret
    exact ⟨zc HR.out.symm, ztb _ _⟩
   ·have HR := zs8 (zj0 (s := s.data.toList) (by rw [zf]; exact h1') (by rw [zf]; exact h2') hz)
    have HI : ¬ 0 ≤ Lib.indexByte s.data.toList 0 := fun g => hz ((zd4 s.data.toList 0).1 g)
    clear hz
    go_enter Tryz.func115, Tryz.ntmps115
    go_wp2_with fail
    refine (Tryz.strings_IndexByte s 0 _).mono ?_
    rintro e w' ⟨rfl, rfl⟩
    rw [show ((0 : Int).toNat.toUInt8) = (0 : UInt8) from rfl]
    generalize Lib.indexByte s.data.toList 0 = ib at *
    go_wp2
    go_loopw [0, 3] (fun sv mo wr => ∃ (x : ByteArray) (more : Bool), sv = .string x /\ mo = .bool more /\ x.size ≤ s.size /\ V.kl s.data.toList = (if more then V.ug x.data.toList else true) /\ Below w'.heap.size w' wr) (fun sv mo _ => (match sv with | .string x => x.size | _ => 0) + (match mo with | .bool true => 1 | _ => 0))
    case atStart => exact ⟨s, true, rfl, rfl, zta _, HR.out, ztb _ _⟩
    case round =>
     obtain ⟨x, more, rfl, rfl, hx, hp, hb⟩ := hrel
     have HB := zs8 hb
     have HP := zs8 hp
     clear hb hp
     rcases more with _ | _
     ·go_wp2
      go_ret
      exact ⟨zc HP.out.symm, HB.out⟩
     ·have hcl := xz 47 x.data.toList
      have HC := zs8 (V.zs0 x.data.toList)
      have HD := zs8 (V.zek (V.cut1 47 x.data.toList).1)
      have HS : Hid ((V.cut1 47 x.data.toList).2.2 = true -> (V.cut1 47 x.data.toList).2.1.length < x.size) := zs8 (fun h => by
        have := congrArg List.length (V.zko 47 x.data.toList h)
        rw [zf] at this
        simp at this; omega)
      rw [zf] at hcl
      go_wp2_with fail
      refine (zbl x 47 _ (HM.out.below HB.out) (by omega)).mono ?_
      rintro e w1 ⟨rfl, hb1⟩
      have HB1 := zs9 HB hb1
      clear hb1
      generalize (V.cut1 47 x.data.toList).1 = p at *
      generalize (V.cut1 47 x.data.toList).2.1 = q at *
      generalize (V.cut1 47 x.data.toList).2.2 = more at *
      rcases HD.out with ⟨rfl, e⟩ | ⟨rfl, e⟩ | ⟨rfl, e⟩ | ⟨e1, e2, e3, e⟩
      ·exact zu9
      ·exact zu9
      ·exact zu9
      ·have HE := zs8 e
       clear HD e
       have HT : Hid (V.kl s.data.toList = if more then V.ug q else true) := zs8 (by
         rw [HP.out, if_pos (by trivial), HC.out, HE.out]; cases more <;> rfl)
       clear HC HP
       go_wp2
       go_roundw
       case rel => exact ⟨⟨q.toArray⟩, more, rfl, rfl, by show q.toArray.size ≤ _; simp; omega, by rw [zbt]; exact HT.out, HB1.out⟩
       case measure =>
        have hq : (⟨q.toArray⟩ : ByteArray).size = q.length := by show q.toArray.size = _; simp
        have := HS.out
        rcases more with _ | _
        ·simp [hq]; omega
        ·have := this rfl
         simp [hq]; omega
end Go.Proofs.YtnhfaincdabdkaaGreatDoor

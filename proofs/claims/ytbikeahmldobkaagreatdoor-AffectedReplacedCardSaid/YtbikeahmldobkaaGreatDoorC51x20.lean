/-
  Lemmas for the law.
-/
import Derived.Test.YtbikeahmldobkaaGreatDoorC51x19
import Derived.Test.YtbikeahmldobkaaGreatDoorC51x18
import Derived.Test.YtbikeahmldobkaaGreatDoorC51x04
import Derived.Test.YtbikeahmldobkaaGreatDoorC51x11
import Derived.Test.YtbikeahmldobkaaGreatDoorC51x14
import Derived.Test.YtbikeahmldobkaaGreatDoorC51x03
import Derived.Test.YtbikeahmldobkaaGreatDoorC51x17
import Derived.BigRegion
import Derived.Deep.RegionHeld3
set_option linter.all false
set_option maxRecDepth 100000
set_option maxHeartbeats 3200000
namespace Go.Proofs.YtbikeahmldobkaaGreatDoor
open Go.RowKit
theorem zvm {P : Prop} (h : P := by
 have f4 : ¬ (s[k].toNat : Int) = 46 := by omega
 have f5 : ((s[k].toNat : Int) == 46) = false := by rw [zvc]; omega
 have f6 : ¬ (s[k].toNat : Int) = 95 := by omega
 have f7 : ((s[k].toNat : Int) == 95) = false := by rw [zvc]; omega
 have f8 : ¬ (s[k].toNat : Int) = 45 := by omega
 have f9 : ((s[k].toNat : Int) == 45) = false := by rw [zvc]; omega
 clear hc HNO HST
 go_wp2
 go_ret
 exact ⟨ze HP.out.symm, rfl⟩) : P := h
theorem zv3 {P : Prop} (h : P := by
 have f4 : ¬ (s[k].toNat : Int) = 46 := by omega
 have f5 : ((s[k].toNat : Int) == 46) = false := by rw [zvc]; omega
 have f6 : ¬ (s[k].toNat : Int) = 95 := by omega
 have f7 : ((s[k].toNat : Int) == 95) = false := by rw [zvc]; omega
 have f8 : ¬ (s[k].toNat : Int) = 45 := by omega
 have f9 : ((s[k].toNat : Int) == 45) = false := by rw [zvc]; omega
 clear hc HNO HST
 go_wp2
 go_round
 case rel => exact ⟨k + 1, by omega, by go_num, HY.out⟩
 case measure => simp [intOf]; omega) : P := h
theorem zv5 {P : Prop} (h : P := by
 clear hc HNO HST
 go_wp2
 go_round
 case rel => exact ⟨k + 1, by omega, by go_num, HY.out⟩
 case measure => simp [intOf]; omega) : P := h
theorem zwi {P : Prop} (h : P := by
 clear hc HNO HST
 go_wp2
 go_ret
 exact ⟨ze HP.out.symm, rfl⟩) : P := h
theorem zof (s : ByteArray) (w : World) (hs : s.size ≤ maxLen) : Calls Tryz.prog 115 #[.string s] w fun e w' => e = .returned (.bool (V.zbf s.data.toList)) /\ w' = w := by
 have hl := zh s
 unfold maxLen at hs
 by_cases h0 : s.size = 0
 ·have g3 : s = ⟨#[]⟩ := yc (by rw [List.length_eq_zero_iff.1 (by omega : s.data.toList.length = 0)])
  subst g3
  go_enter Tryz.func115, Tryz.ntmps115
  go_wp2
  go_ret
  exact ⟨rfl, rfl⟩
 have q0 : ¬ (s.size : Int) < 1 := by omega
 have g0 : s.data.toList ≠ [] := fun e => by rw [e] at hl; exact h0 hl.symm
 have g6 : s.toList.isEmpty = false := by
  rw [Lib.toList_data]
  cases hq : s.data.toList with
  | nil => exact absurd hq g0
  | cons c r => rfl
 have g5 : (s.data.toList == []) = false := by rw [zvc]; exact g0
 clear g0
 by_cases h64 : 64 < s.size
 ·have HP : Hid (V.zbf s.data.toList = false) := zu8 (decide_eq_false fun hp => by have := hp.2.1; omega)
  have q1 : (64 : Int) < (s.size : Int) := by omega
  clear hl
  go_enter Tryz.func115, Tryz.ntmps115
  go_wp2
  go_ret
  exact ⟨ze HP.out.symm, rfl⟩
 have q1 : ¬ (64 : Int) < (s.size : Int) := by omega
 have HL := zu8 hl
 clear hl
 go_enter Tryz.func115, Tryz.ntmps115
 go_wp2
 go_loop [3] (fun iv => ∃ k : Nat, k ≤ s.size /\ iv = .int .i64 k /\ ∀ j (h : j < s.data.toList.length), j < k -> V.nmAt j s.data.toList[j] = true) (fun iv => s.size - (intOf iv).toNat)
 case atStart => exact ⟨0, Nat.zero_le _, rfl, fun j _ h => absurd h (Nat.not_lt_zero _)⟩
 case round =>
  obtain ⟨k, hk, rfl, g2⟩ := hrel
  have g1 := zu8 g2
  clear g2
  by_cases hlt : k < s.size
  ·have he : s.data.toList[k]'(by have := HL.out; omega) = s[k] := by simp; rfl
   have HNO := zu8 (V.name_no (s := s.data.toList) (k := k) (by have := HL.out; omega))
   have HST : Hid (V.nmAt k s[k] = true -> ∀ j (h : j < s.data.toList.length), j < k + 1 -> V.nmAt j s.data.toList[j] = true) := zu8 (fun hy j h hj => by
     by_cases hjk : j < k
     · exact g1.out j h hjk
     · obtain rfl : j = k := by omega
       rw [he]; exact hy)
   rw [he] at HNO
   clear he g1
   have i1 : (0 : Int) ≤ (k : Int) := by omega
   have i2 : (k : Int) < (s.size : Int) := by omega
   have wr1 : IntKind.i64.wrap ((k : Int) + 1) = (k : Int) + 1 := IntWalk.i64_in _ (by omega)
   have g4 : (s[k].toNat < 48 /\ s[k].toNat ≠ 45 /\ s[k].toNat ≠ 46) ∨ (s[k].toNat = 45) ∨ (s[k].toNat = 46) ∨ (48 ≤ s[k].toNat /\ s[k].toNat ≤ 57) ∨ (58 ≤ s[k].toNat /\ s[k].toNat < 97 /\ s[k].toNat ≠ 95) ∨ (s[k].toNat = 95) ∨ (97 ≤ s[k].toNat /\ s[k].toNat ≤ 122) ∨ (123 ≤ s[k].toNat) := by omega
   rcases g4 with hc | hc | hc | hc | hc | hc | hc | hc
   ·have HP := zu8 (HNO.out (by simp [V.nmAt, V.nmA, V.nmP]; omega))
    by_cases hk0 : 0 < k
    ·have j0 : (0 : Int) < (k : Int) := by omega
     have f0 : ¬ (97 : Int) ≤ (s[k].toNat : Int) := by omega
     have f1 : (s[k].toNat : Int) ≤ 122 := by omega
     have f2 : ¬ (48 : Int) ≤ (s[k].toNat : Int) := by omega
     have f3 : (s[k].toNat : Int) ≤ 57 := by omega
     exact zvm
    ·have j0 : ¬ (0 : Int) < (k : Int) := by omega
     have f0 : ¬ (97 : Int) ≤ (s[k].toNat : Int) := by omega
     have f1 : (s[k].toNat : Int) ≤ 122 := by omega
     have f2 : ¬ (48 : Int) ≤ (s[k].toNat : Int) := by omega
     have f3 : (s[k].toNat : Int) ≤ 57 := by omega
     exact zvm
   ·by_cases hk0 : 0 < k
    ·have HY := zu8 (HST.out (by simp [V.nmAt, V.nmP, hc, hk0]))
     have j0 : (0 : Int) < (k : Int) := by omega
     have f0 : ¬ (97 : Int) ≤ (s[k].toNat : Int) := by omega
     have f1 : (s[k].toNat : Int) ≤ 122 := by omega
     have f2 : ¬ (48 : Int) ≤ (s[k].toNat : Int) := by omega
     have f3 : (s[k].toNat : Int) ≤ 57 := by omega
     have f4 : ¬ (s[k].toNat : Int) = 46 := by omega
     have f5 : ((s[k].toNat : Int) == 46) = false := by rw [zvc]; omega
     have f6 : ¬ (s[k].toNat : Int) = 95 := by omega
     have f7 : ((s[k].toNat : Int) == 95) = false := by rw [zvc]; omega
     have f8 : (s[k].toNat : Int) = 45 := by omega
     exact zv5
    ·have HP := zu8 (HNO.out (by simp [V.nmAt, V.nmA, hc, hk0]))
     have j0 : ¬ (0 : Int) < (k : Int) := by omega
     have f0 : ¬ (97 : Int) ≤ (s[k].toNat : Int) := by omega
     have f1 : (s[k].toNat : Int) ≤ 122 := by omega
     have f2 : ¬ (48 : Int) ≤ (s[k].toNat : Int) := by omega
     have f3 : (s[k].toNat : Int) ≤ 57 := by omega
     have f4 : ¬ (s[k].toNat : Int) = 46 := by omega
     have f5 : ((s[k].toNat : Int) == 46) = false := by rw [zvc]; omega
     have f6 : ¬ (s[k].toNat : Int) = 95 := by omega
     have f7 : ((s[k].toNat : Int) == 95) = false := by rw [zvc]; omega
     have f8 : (s[k].toNat : Int) = 45 := by omega
     exact zwi
   ·by_cases hk0 : 0 < k
    ·have HY := zu8 (HST.out (by simp [V.nmAt, V.nmP, hc, hk0]))
     have j0 : (0 : Int) < (k : Int) := by omega
     have f0 : ¬ (97 : Int) ≤ (s[k].toNat : Int) := by omega
     have f1 : (s[k].toNat : Int) ≤ 122 := by omega
     have f2 : ¬ (48 : Int) ≤ (s[k].toNat : Int) := by omega
     have f3 : (s[k].toNat : Int) ≤ 57 := by omega
     have f4 : (s[k].toNat : Int) = 46 := by omega
     have f5 : ¬ (s[k].toNat : Int) = 95 := by omega
     have f6 : ((s[k].toNat : Int) == 95) = false := by rw [zvc]; omega
     have f7 : ¬ (s[k].toNat : Int) = 45 := by omega
     have f8 : ((s[k].toNat : Int) == 45) = false := by rw [zvc]; omega
     exact zv5
    ·have HP := zu8 (HNO.out (by simp [V.nmAt, V.nmA, hc, hk0]))
     have j0 : ¬ (0 : Int) < (k : Int) := by omega
     have f0 : ¬ (97 : Int) ≤ (s[k].toNat : Int) := by omega
     have f1 : (s[k].toNat : Int) ≤ 122 := by omega
     have f2 : ¬ (48 : Int) ≤ (s[k].toNat : Int) := by omega
     have f3 : (s[k].toNat : Int) ≤ 57 := by omega
     have f4 : (s[k].toNat : Int) = 46 := by omega
     have f5 : ¬ (s[k].toNat : Int) = 95 := by omega
     have f6 : ((s[k].toNat : Int) == 95) = false := by rw [zvc]; omega
     have f7 : ¬ (s[k].toNat : Int) = 45 := by omega
     have f8 : ((s[k].toNat : Int) == 45) = false := by rw [zvc]; omega
     exact zwi
   ·have HY := zu8 (HST.out (by simp [V.nmAt, V.nmA, hc]))
    have f0 : ¬ (97 : Int) ≤ (s[k].toNat : Int) := by omega
    have f1 : (s[k].toNat : Int) ≤ 122 := by omega
    have f2 : (48 : Int) ≤ (s[k].toNat : Int) := by omega
    have f3 : (s[k].toNat : Int) ≤ 57 := by omega
    exact zv3
   ·have HP := zu8 (HNO.out (by simp [V.nmAt, V.nmA, V.nmP]; omega))
    by_cases hk0 : 0 < k
    ·have j0 : (0 : Int) < (k : Int) := by omega
     have f0 : ¬ (97 : Int) ≤ (s[k].toNat : Int) := by omega
     have f1 : (s[k].toNat : Int) ≤ 122 := by omega
     have f2 : (48 : Int) ≤ (s[k].toNat : Int) := by omega
     have f3 : ¬ (s[k].toNat : Int) ≤ 57 := by omega
     exact zvm
    ·have j0 : ¬ (0 : Int) < (k : Int) := by omega
     have f0 : ¬ (97 : Int) ≤ (s[k].toNat : Int) := by omega
     have f1 : (s[k].toNat : Int) ≤ 122 := by omega
     have f2 : (48 : Int) ≤ (s[k].toNat : Int) := by omega
     have f3 : ¬ (s[k].toNat : Int) ≤ 57 := by omega
     exact zvm
   ·by_cases hk0 : 0 < k
    ·have HY := zu8 (HST.out (by simp [V.nmAt, V.nmP, hc, hk0]))
     have j0 : (0 : Int) < (k : Int) := by omega
     have f0 : ¬ (97 : Int) ≤ (s[k].toNat : Int) := by omega
     have f1 : (s[k].toNat : Int) ≤ 122 := by omega
     have f2 : (48 : Int) ≤ (s[k].toNat : Int) := by omega
     have f3 : ¬ (s[k].toNat : Int) ≤ 57 := by omega
     have f4 : ¬ (s[k].toNat : Int) = 46 := by omega
     have f5 : ((s[k].toNat : Int) == 46) = false := by rw [zvc]; omega
     have f6 : (s[k].toNat : Int) = 95 := by omega
     have f7 : ¬ (s[k].toNat : Int) = 45 := by omega
     have f8 : ((s[k].toNat : Int) == 45) = false := by rw [zvc]; omega
     exact zv5
    ·have HP := zu8 (HNO.out (by simp [V.nmAt, V.nmA, hc, hk0]))
     have j0 : ¬ (0 : Int) < (k : Int) := by omega
     have f0 : ¬ (97 : Int) ≤ (s[k].toNat : Int) := by omega
     have f1 : (s[k].toNat : Int) ≤ 122 := by omega
     have f2 : (48 : Int) ≤ (s[k].toNat : Int) := by omega
     have f3 : ¬ (s[k].toNat : Int) ≤ 57 := by omega
     have f4 : ¬ (s[k].toNat : Int) = 46 := by omega
     have f5 : ((s[k].toNat : Int) == 46) = false := by rw [zvc]; omega
     have f6 : (s[k].toNat : Int) = 95 := by omega
     have f7 : ¬ (s[k].toNat : Int) = 45 := by omega
     have f8 : ((s[k].toNat : Int) == 45) = false := by rw [zvc]; omega
     exact zwi
   ·have HY := zu8 (HST.out (by simp [V.nmAt, V.nmA, hc]))
    have f0 : (97 : Int) ≤ (s[k].toNat : Int) := by omega
    have f1 : (s[k].toNat : Int) ≤ 122 := by omega
    have f2 : (48 : Int) ≤ (s[k].toNat : Int) := by omega
    have f3 : ¬ (s[k].toNat : Int) ≤ 57 := by omega
    exact zv3
   ·have HP := zu8 (HNO.out (by simp [V.nmAt, V.nmA, V.nmP]; omega))
    by_cases hk0 : 0 < k
    ·have j0 : (0 : Int) < (k : Int) := by omega
     have f0 : (97 : Int) ≤ (s[k].toNat : Int) := by omega
     have f1 : ¬ (s[k].toNat : Int) ≤ 122 := by omega
     have f2 : (48 : Int) ≤ (s[k].toNat : Int) := by omega
     have f3 : ¬ (s[k].toNat : Int) ≤ 57 := by omega
     exact zvm
    ·have j0 : ¬ (0 : Int) < (k : Int) := by omega
     have f0 : (97 : Int) ≤ (s[k].toNat : Int) := by omega
     have f1 : ¬ (s[k].toNat : Int) ≤ 122 := by omega
     have f2 : (48 : Int) ≤ (s[k].toNat : Int) := by omega
     have f3 : ¬ (s[k].toNat : Int) ≤ 57 := by omega
     exact zvm
  ·obtain rfl : k = s.size := by omega
   have HP : Hid (V.zbf s.data.toList = true) := zu8 (decide_eq_true ⟨by have := HL.out; omega, by have := HL.out; omega, fun j h => g1.out j h (by have := HL.out; omega)⟩)
   go_wp2
   go_ret
   exact ⟨ze HP.out.symm, rfl⟩
theorem zxe {P : Prop} (h : P := by
 have HE := zu8 (HIn.out e)
 clear HD e
 go_wp2
 go_ret
 exact ⟨ze (by rw [HA.out, HE.out]), HB1.out⟩) : P := h
theorem zxu {P : Prop} (h : P := by
 go_enter Tryz.func93, Tryz.ntmps93
 go_wp2
 go_ret
 exact ⟨ze HR.out.symm, zvb _ _⟩) : P := h
theorem zuw (s : ByteArray) (w : World) (hm : zj w) (hs : s.size ≤ maxLen) :
  Calls Tryz.prog 93 #[.string s] w fun e w' => e = .returned (.bool (V.jo s.data.toList)) /\ Below w.heap.size w w' := by
 have HM := zu8 hm
 unfold maxLen at hs
 clear hm
 by_cases h1 : s.size < 1
 ·have HR := zu8 (zcd (s := s.data.toList) (.inl (by rw [zh]; exact h1)))
  have he : s = ⟨#[]⟩ := yc (by
    have : s.data.toList = [] := List.eq_nil_of_length_eq_zero (by rw [zh]; omega)
    rw [this])
  subst he
  exact zxu
 ·have g3 : s.toList.isEmpty = false := by
   rw [Lib.toList_data]
   rcases hd : s.data.toList with _ | ⟨c, r⟩
   ·have := zh s; rw [hd] at this; simp at this; omega
   ·rfl
  have g7 : ¬ s.toList = [] := by simpa using g3
  by_cases h2 : 200 < s.size
  ·have HR := zu8 (zcd (s := s.data.toList) (.inr (by rw [zh]; exact h2)))
   exact zxu
  ·have g4 : 1 ≤ s.size := by omega
   have g5 : s.size ≤ 200 := by omega
   clear h1 h2
   go_enter Tryz.func93, Tryz.ntmps93
   go_wp2
   go_loop [3] (fun i => ∃ k : Nat, k ≤ s.size /\ i = .int .i64 k /\ (s.data.toList.take k).all (fun c => c != 0) = true) (fun i => s.size - (intOf i).toNat)
   case atStart => exact ⟨0, Nat.zero_le _, rfl, rfl⟩
   case round =>
    obtain ⟨k, hk, rfl, hp⟩ := hrel
    have HP := zu8 hp
    clear hp
    by_cases hlt : k < s.size
    ·have hl : k < s.data.toList.length := by rw [zh]; exact hlt
     have HT := zu8 (V.zby (p := fun c => c != 0) hl)
     have he : s.data.toList[k] = s[k] := by simp; rfl
     by_cases h0 : s[k] = 0
     ·have HR := zu8 (zk6 (s := s.data.toList) (by rw [← h0, ← he]; exact List.getElem_mem _))
      have g6 : ((s[k]).toNat : Int) = 0 := by rw [h0]; rfl
      clear he
      go_wp2
      go_ret
      exact ⟨ze HR.out.symm, zvb _ _⟩
     ·have g6 : ¬ ((s[k]).toNat : Int) = 0 := fun e => h0 (UInt8.toNat_inj.1 (show (s[k]).toNat = 0 by omega))
      have HN : Hid ((s[k] != 0) = true) := zu8 (by simpa using h0)
      have HE := zu8 he
      clear he
      go_wp2
      go_round
      case rel => exact ⟨k + 1, by omega, by go_num, by rw [HT.out, HP.out, HE.out, HN.out]; rfl⟩
      case measure => simp [intOf]; omega
    ·have hz : (0 : UInt8) ∉ s.data.toList := by
      have hp := HP.out
      rw [List.take_of_length_le (by rw [zh]; omega), List.all_eq_true] at hp
      intro g
      have := hp 0 g
      simp at this
     have HR := zu8 (zlh (s := s.data.toList) (by rw [zh]; exact g4) (by rw [zh]; exact g5) hz)
     clear hz HP
     go_wp2_with fail
     refine (ki s 47 _ HM.out (by omega)).mono ?_
     rintro e w1 ⟨rfl, g1⟩
     have g2 := Strs.split w (V.zl 47 s.data.toList) 9
     rw [← g1] at g2
     have hb1 : Below w.heap.size w w1 := by rw [g1]; exact (zvb _ w).alloc (zva _) _
     have HB1 := zu8 hb1
     have HS := zu8 g2
     have HA : Hid (V.jo s.data.toList = (V.zl 47 s.data.toList).all V.ym) := HR
     have g8 : (V.zl 47 s.data.toList).length ≤ 201 := by have := jf 47 s.data.toList; rw [zh] at this; omega
     clear g1 g2 hb1
     generalize V.zl 47 s.data.toList = P at *
     go_wp2
     go_loop [5] (fun i => ∃ k : Nat, k ≤ P.length /\ i = .int .i64 k /\ (P.take k).all V.ym = true) (fun i => P.length - (intOf i).toNat)
     case atStart => exact ⟨0, Nat.zero_le _, rfl, rfl⟩
     case round =>
      obtain ⟨k, hk, rfl, hp⟩ := hrel
      have HP := zu8 hp
      clear hp
      by_cases hlt : k < P.length
      ·obtain ⟨b, off, e, _, hcell⟩ := HS.out.at k hlt
       cases e
       rw [Nat.zero_add] at hcell
       have HT := zu8 (zdp (p := V.ym) hlt)
       have hg : P.getD k [] = P[k] := by rw [List.getD_eq_getElem?_getD, List.getElem?_eq_getElem hlt]; rfl
       rw [hg] at hcell
       have HIn : Hid (V.ym P[k] = false -> P.all V.ym = false) := zu8 fun h => by
        rw [← Bool.not_eq_true, List.all_eq_true]
        intro g
        rw [g _ (List.getElem_mem hlt)] at h; cases h
       have HD := zu8 (V.zfo P[k])
       generalize P[k] = p at *
       clear hg
       rcases HD.out with ⟨rfl, e⟩ | ⟨rfl, e⟩ | ⟨rfl, e⟩ | ⟨e1, e2, e3, e⟩
       ·exact zxe
       ·exact zxe
       ·exact zxe
       ·have HE := zu8 e
        clear HD e
        go_wp2
        go_round
        case rel => exact ⟨k + 1, by omega, by go_num, by rw [HT.out, HP.out, HE.out]; rfl⟩
        case measure => simp [intOf]; omega
      ·have g0 := HP.out
       rw [List.take_of_length_le (by omega)] at g0
       have HL := zu8 g0
       clear g0
       go_wp2
       go_ret
       exact ⟨ze (by rw [HA.out, HL.out]), HB1.out⟩
open Go.RowKit
theorem zrb (n : Int) (x y : V.Bs) (c : Int) (w : World) (hm : zj w) (hn : V.scheme n = true) (hx : V.valid n x = true) (hy : V.valid n y = true) (hc : V.cmpV n x y = c) :
  Calls Tryz.prog 79 #[.int .i64 n, .string ⟨x.toArray⟩, .string ⟨y.toArray⟩] w fun e w' => e = .returned (.tuple #[.int .i64 c, .int .i64 0]) /\ Below w.heap.size w w' := by
 have l1 := V.xp hx
 have l2 := V.xp hy
 refine zre n ⟨x.toArray⟩ ⟨y.toArray⟩ c 0 ?_ w hm (by show x.length ≤ _; unfold maxLen; omega) (by show y.length ≤ _; unfold maxLen; omega)
 simp only
 unfold V.qc
 rw [hn, hx, hy]
 simp only [Bool.not_true, Bool.false_eq_true, if_false, Bool.and_self, if_true, hc]
def cutV (c : V.Cut) : Value := .agg #[.string ⟨c.1.toArray⟩, .bool c.2]
def itvV (x : V.Itv) : Value := .agg #[.string ⟨x.lo.toArray⟩, .int .i64 x.lk, .string ⟨x.hi.toArray⟩, .int .i64 x.hk]
def zcv (w : World) (b o : Nat) (x : V.Itv) : Prop := w.cell? ⟨b, o, none⟩ = some (.string ⟨x.lo.toArray⟩) /\ w.cell? ⟨b, o + 1, none⟩ = some (.int .i64 x.lk) /\ w.cell? ⟨b, o + 2, none⟩ = some (.string ⟨x.hi.toArray⟩) /\ w.cell? ⟨b, o + 3, none⟩ = some (.int .i64 x.hk)
def Itvs (w : World) (v : Value) (l : List V.Itv) : Prop := ∃ a cap, v = .slice a l.length cap /\ ∀ j (h : j < l.length), ∃ b off, a = some ⟨b, off, none⟩ /\ b < w.heap.size /\ zcv w b (off + j * 4) l[j]
theorem zcv.below {w w' : World} {b o : Nat} {x : V.Itv} (h : zcv w b o x) (hlt : b < w.heap.size) (hb : Below w.heap.size w w') : zcv w' b o x :=
 ⟨(hb.cell (p := ⟨b, o, none⟩) hlt).trans h.1, (hb.cell (p := ⟨b, o + 1, none⟩) hlt).trans h.2.1, (hb.cell (p := ⟨b, o + 2, none⟩) hlt).trans h.2.2.1, (hb.cell (p := ⟨b, o + 3, none⟩) hlt).trans h.2.2.2⟩
theorem Itvs.nil (w : World) : Itvs w (.slice none 0 0) [] := ⟨none, 0, rfl, fun j h => by simp at h⟩
theorem Itvs.below {w w' : World} {v : Value} {l : List V.Itv} (h : Itvs w v l) (hb : Below w.heap.size w w') : Itvs w' v l := by
 obtain ⟨a, cap, e, hc⟩ := h
 refine ⟨a, cap, e, fun j hj => ?_⟩
 obtain ⟨b, off, ea, hlt, hcell⟩ := hc j hj
 exact ⟨b, off, ea, Nat.lt_of_lt_of_le hlt hb.size, hcell.below hlt hb⟩
theorem Itvs.slice {w : World} {v : Value} {l : List V.Itv} (h : Itvs w v l) : ∃ a cap, v = .slice a l.length cap := by
 obtain ⟨a, c, e, _⟩ := h
 exact ⟨a, c, e⟩
theorem Itvs.at {w : World} {a : Option Addr} {n cap : Nat} {l : List V.Itv} (h : Itvs w (.slice a n cap) l) (j : Nat) (hj : j < l.length) : ∃ b off, a = some ⟨b, off, none⟩ /\ b < w.heap.size /\ zcv w b (off + j * 4) l[j] := by
 obtain ⟨a', c, e, hc⟩ := h
 obtain ⟨b, off, ea, hb, hcell⟩ := hc j hj
 cases e
 exact ⟨b, off, ea, hb, hcell⟩
theorem zw0 {P : Prop} (h : P := by
 go_enter Tryz.func149, Tryz.ntmps149
 go_wp2
 go_ret
 exact ⟨rfl, rfl⟩) : P := h
theorem zcc (n : Int) (w : World) : Calls Tryz.prog 149 #[.int .i64 n] w fun e w' => e = .returned (.bool (V.scheme n)) /\ w' = w := by
 have HS : Hid (V.scheme n = (n == 1 || (n == 3 || n == 2))) := zu8 (by unfold V.scheme; cases (n == 1) <;> cases (n == 2) <;> cases (n == 3) <;> rfl)
 by_cases h1 : n = 1
 ·subst h1
  exact zw0
 ·by_cases h2 : n = 2
  ·subst h2
   exact zw0
  ·by_cases h3 : n = 3
   ·subst h3
    exact zw0
   ·have b1 : (n == 1) = false := by simpa using h1
    have b2 : (n == 2) = false := by simpa using h2
    have b3 : (n == 3) = false := by simpa using h3
    have HF : Hid (V.scheme n = false) := zu8 (by rw [HS.out, b1, b2, b3]; rfl)
    clear h1 h2 h3
    go_enter Tryz.func149, Tryz.ntmps149
    go_wp2
    go_ret
    exact ⟨ze HF.out.symm, rfl⟩
theorem zd6 (x : V.Itv) (w : World) : Calls Tryz.prog 113 #[itvV x] w fun e w' => e = .returned (cutV x.low) /\ Below w.heap.size w w' := by
 unfold itvV cutV V.Itv.low
 obtain ⟨lo, lk, hi, hk⟩ := x
 have HD : Hid (decide (lk = 2) = (lk == 2)) := zu8 (by rw [Bool.eq_iff_iff]; simp)
 simp only
 rw [HD.out]
 generalize (⟨lo.toArray⟩ : ByteArray) = s
 generalize (⟨hi.toArray⟩ : ByteArray) = t
 go_enter Tryz.func113, Tryz.ntmps113
 go_wp2
 exact bodyPost_ret (v := .agg #[.string s, .bool (lk == 2)]) (by simp [results, Tryz.results113, go_sem]) rfl ⟨rfl, ((((zvb _ _).alloc (zva _) _).alloc (by simp) _))⟩
theorem zan (x : V.Itv) (w : World) : Calls Tryz.prog 114 #[itvV x] w fun e w' => e = .returned (cutV x.high) /\ Below w.heap.size w w' := by
 unfold itvV cutV V.Itv.high
 obtain ⟨lo, lk, hi, hk⟩ := x
 have HD : Hid (decide (hk = 1) = (hk == 1)) := zu8 (by rw [Bool.eq_iff_iff]; simp)
 simp only
 rw [HD.out]
 generalize (⟨lo.toArray⟩ : ByteArray) = s
 generalize (⟨hi.toArray⟩ : ByteArray) = t
 go_enter Tryz.func114, Tryz.ntmps114
 go_wp2
 exact bodyPost_ret (v := .agg #[.string t, .bool (hk == 1)]) (by simp [results, Tryz.results114, go_sem]) rfl ⟨rfl, ((((zvb _ _).alloc (zva _) _).alloc (by simp) _))⟩
theorem xg (n : Int) (c d : V.Cut) (w : World) (hm : zj w) (hn : V.scheme n = true) (hc : V.valid n c.1 = true) (hd : V.valid n d.1 = true) :
  Calls Tryz.prog 112 #[.int .i64 n, cutV c, cutV d] w fun e w' => e = .returned (.int .i64 (V.cutC n c d)) /\ Below w.heap.size w w' := by
 obtain ⟨a, p⟩ := c
 obtain ⟨b, q⟩ := d
 have HF : Hid (V.cutC n (a, p) (b, q) = if V.cmpV n a b ≠ 0 ∨ p = q then V.cmpV n a b else if q then -1 else 1) := rfl
 have HN := zu8 hn
 have HC := zu8 (show V.valid n a = true from hc)
 have HD := zu8 (show V.valid n b = true from hd)
 have g0 : Below w.heap.size w ((w.alloc (.cells #[.string ⟨a.toArray⟩, .bool p] 152)).alloc (.cells #[.string ⟨b.toArray⟩, .bool q] 152)) := ((zvb _ _).alloc (zva _) _).alloc (by simp) _
 have HB0 := zu8 g0
 have HM := zu8 (hm.below g0)
 clear hn hc hd g0 hm
 unfold cutV
 simp only
 obtain ⟨z, hz⟩ : ∃ z, V.cmpV n a b = z := ⟨_, rfl⟩
 have HZ := zu8 hz
 rw [hz] at HF
 have e1 : ((w.alloc (.cells #[.string ⟨a.toArray⟩, .bool p] 152)).alloc (.cells #[.string ⟨b.toArray⟩, .bool q] 152)).cell? ⟨w.heap.size, 1, none⟩ = some (.bool p) := by simp [zg]
 have e2 : ((w.alloc (.cells #[.string ⟨a.toArray⟩, .bool p] 152)).alloc (.cells #[.string ⟨b.toArray⟩, .bool q] 152)).cell? ⟨w.heap.size + 1, 1, none⟩ = some (.bool q) := by simp [zg]
 have HE := zu8 (And.intro e1 e2)
 clear hz e1 e2
 go_enter Tryz.func112, Tryz.ntmps112
 go_wp2_with fail
 refine (zrb n a b z _ HM.out HN.out HC.out HD.out HZ.out).mono ?_
 rintro e w1 ⟨rfl, hb1⟩
 have c1 := (hb1.cell (p := ⟨w.heap.size, 1, none⟩) (by simp; omega)).trans HE.out.1
 have c2 := (hb1.cell (p := ⟨w.heap.size + 1, 1, none⟩) (by simp)).trans HE.out.2
 have HB1 := zu9 HB0 hb1
 clear hb1
 by_cases h0 : z = 0
 ·subst h0
  cases p <;> cases q
  all_goals
   go_wp2
   go_ret
   exact ⟨zu (by rw [HF.out]; rfl), HB1.out⟩
 ·have g1 : (z != 0) = true := by simpa using h0
  have g2 : (z == 0) = false := by simpa using h0
  have HF2 : Hid (V.cutC n (a, p) (b, q) = z) := zu8 (by rw [HF.out, if_pos (.inl h0)])
  clear h0 HF
  go_wp2
  go_ret
  exact ⟨zu HF2.out.symm, HB1.out⟩
theorem zgz (n : Int) (v : V.Bs) (k : Int) (w : World) (hm : zj w) (hv : v.length ≤ maxLen) :
  Calls Tryz.prog 150 #[.int .i64 n, .string ⟨v.toArray⟩, .int .i64 k] w fun e w' => e = .returned (.bool (V.jg n v k)) /\ Below w.heap.size w w' := by
 have HF : Hid (V.jg n v k = if k = 0 then v.isEmpty else (decide (k = 1) || decide (k = 2)) && V.valid n v) := rfl
 by_cases h0 : k = 0
 ·subst h0
  rw [if_pos rfl] at HF
  by_cases hv0 : v = []
  ·subst hv0
   go_enter Tryz.func150, Tryz.ntmps150
   go_wp2
   go_ret
   exact ⟨rfl, zvb _ _⟩
  ·have HFE : Hid (V.jg n v 0 = false) := zu8 (by rw [HF.out]; simpa using hv0)
   have g1 : ¬ v = [] := hv0
   clear hv0 HF
   go_enter Tryz.func150, Tryz.ntmps150
   go_wp2
   go_ret
   exact ⟨ze (by rw [HFE.out]; simpa using g1), zvb _ _⟩
 ·rw [if_neg h0] at HF
  have b0 : (k == 0) = false := by simpa using h0
  by_cases g0 : k = 1 ∨ k = 2
  ·have HF2 : Hid (V.jg n v k = V.valid n v) := zu8 (by rw [HF.out]; rcases g0 with h | h <;> simp [h])
   have HM := zu8 hm
   clear HF hm
   rcases g0 with rfl | rfl
   all_goals
    go_enter Tryz.func150, Tryz.ntmps150
    go_wp2_with fail
    refine (zgh n ⟨v.toArray⟩ _ HM.out hv).mono ?_
    rintro e w1 ⟨rfl, hb1⟩
    rw [za5]
    have HB1 := zu8 hb1
    clear hb1
    go_wp2
    go_ret
    exact ⟨ze HF2.out.symm, HB1.out⟩
  ·have b1 : (k == 1) = false := by simpa using fun h => g0 (.inl h)
   have b2 : (k == 2) = false := by simpa using fun h => g0 (.inr h)
   have HF2 : Hid (V.jg n v k = false) := zu8 (by rw [HF.out, decide_eq_false (fun h => g0 (.inl h)), decide_eq_false (fun h => g0 (.inr h))]; rfl)
   clear HF g0 h0
   go_enter Tryz.func150, Tryz.ntmps150
   go_wp2
   go_ret
   exact ⟨ze HF2.out.symm, zvb _ _⟩
end Go.Proofs.YtbikeahmldobkaaGreatDoor

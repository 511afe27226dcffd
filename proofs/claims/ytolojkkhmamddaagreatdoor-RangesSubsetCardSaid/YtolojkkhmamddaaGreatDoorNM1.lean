/-
  Walk: the law RangesSubset. (Printed by gen_NM.py.)
-/
import Derived.Test.YtolojkkhmamddaaGreatDoorNL
import Derived.Deep.RegionHeld3
namespace Go.Proofs.YtolojkkhmamddaaGreatDoor
open Go.RowKit

set_option maxRecDepth 100000 in
set_option maxHeartbeats 12800000 in
theorem rangesSubset_any (a : Option Addr) (m cap : Nat) (w : World) (hm : MaxOk w) (ht : Nums w a m) :
    Calls Tryz.prog 3 #[.slice a m cap] w fun e w' => e = .returned (.bool true) ∧ Below w.heap.size w w' := by
  have HM0 := Lib.hid hm
  have HT := Lib.hid ht
  clear hm ht
  go_enter Tryz.func3, Tryz.ntmps3
  go_wp2_with fail
  refine (made07_any a m cap w HM0.out HT.out).mono ?_
  rintro e w0 ⟨n, lA, lB, v, pA, qA, pB, qB, hn, hfa, hfb, hv, rfl, ha, hb, hb0⟩
  have OA := Lib.hid hfa
  have OB := Lib.hid hfb
  have HV := Lib.hid hv
  have HN := Lib.hid hn
  have hvl : (ByteArray.mk v.toArray).size ≤ 64 := by have := (V.valid_len hv).2; simpa [ByteArray.size] using this
  have HVL : Hid (v.length ≤ maxLen) := Lib.hid (by have := (V.valid_len hv).2; unfold maxLen; omega)
  obtain ⟨h2, ZA, ZB⟩ := two_boxes w0 n pA pB qA qB lA lB ha hb
  have HB := Lib.hid (hb0.trans (h2.mono hb0.size))
  have HM := Lib.hid (HM0.out.below HB.out)
  replace ZA := Lib.hid ZA
  replace ZB := Lib.hid ZB
  clear hn hfa hfb hv ha hb hb0 h2
  unfold setV
  obtain ⟨cA0, cA1⟩ := ZA.out.cells
  obtain ⟨cB0, cB1⟩ := ZB.out.cells
  go_wp2_with fail
  generalize (w0.alloc (.cells #[.int .i64 n, .slice pA lA.length qA] 25)).alloc (.cells #[.int .i64 n, .slice pB lB.length qB] 25) = W0 at *
  obtain ⟨XA, hXA⟩ : ∃ X, X = w0.heap.size := ⟨_, rfl⟩
  simp only [← hXA] at *
  obtain ⟨XB, hXB⟩ : ∃ X, X = XA + 1 := ⟨_, rfl⟩
  simp only [← hXB] at *
  clear hXB hXA
  obtain ⟨HL1, HL2⟩ := V.subset_law OA.out OB.out HV.out
  replace HL1 := Lib.hid HL1
  replace HL2 := Lib.hid HL2
  have HS := Lib.hid (V.subP_ok OA.out.ok OB.out.ok)
  obtain ⟨P, hP⟩ : ∃ P, P = V.subL n lA lB := ⟨_, rfl⟩
  rw [← hP] at HS HL1 HL2
  clear hP
  refine (rgSubset_any n n (.slice pA lA.length qA) (.slice pB lB.length qB) lA lB W0 HM.out ZA.out.set ZB.out.set (lens_ok OA.out.ok) (lens_ok OB.out.ok) (few_len OA.out) (few_len OB.out)).mono ?_
  rintro e w1 ⟨rfl, hb1⟩
  rw [HS.out]
  simp only
  clear cA0 cA1 cB0 cB1
  replace ZA := Lib.hid (ZA.out.later hb1)
  replace ZB := Lib.hid (ZB.out.later hb1)
  replace HB := Lib.hid (HB.out.trans (hb1.mono HB.out.size))
  replace HM := Lib.hid (HM.out.below hb1)
  clear hb1
  obtain ⟨cA0, cA1⟩ := ZA.out.cells
  obtain ⟨cB0, cB1⟩ := ZB.out.cells
  go_wp2_with fail
  have HOU := Lib.hid (V.opP_few V.orF OA.out OB.out (by omega))
  refine (rgUnion_any n n (.slice pA lA.length qA) (.slice pB lB.length qB) lA lB w1 HM.out ZA.out.set ZB.out.set (lens_ok OA.out.ok) (lens_ok OB.out.ok) (few_len OA.out) (few_len OB.out)).mono ?_
  rintro e w2 ⟨u2, rfl, hu2, _, hb2⟩
  rw [HOU.out] at hu2 ⊢
  simp only at hu2 ⊢
  obtain ⟨lX, hlX⟩ : ∃ l, l = V.opL n V.orF lA lB := ⟨_, rfl⟩
  rw [← hlX] at hu2
  have EX := Lib.hid hlX
  clear hlX
  obtain ⟨pX, qX, rfl⟩ := hu2.slice
  unfold setV
  clear cA0 cA1 cB0 cB1
  have hbA2 : Below w2.heap.size w2 (w2.alloc (.cells #[.int .i64 n, .slice pX lX.length qX] 25)) := (Below.refl _ _).alloc (Nat.le_refl _) _
  have hbT2 := hb2.trans (hbA2.mono hb2.size)
  replace ZA := Lib.hid (ZA.out.later hbT2)
  replace ZB := Lib.hid (ZB.out.later hbT2)
  replace HB := Lib.hid (HB.out.trans (hbT2.mono HB.out.size))
  replace HM := Lib.hid (HM.out.below hbT2)
  have ZX : Hid (BoxAt (w2.alloc (.cells #[.int .i64 n, .slice pX lX.length qX] 25)) w2.heap.size n pX qX lX) := Lib.hid ⟨by rw [heap_alloc, if_pos rfl], hu2.below hbA2⟩
  clear hu2 hb2 hbA2 hbT2
  obtain ⟨cX0, cX1⟩ := ZX.out.cells
  obtain ⟨cB0, cB1⟩ := ZB.out.cells
  go_wp2_with fail
  generalize w2.alloc (.cells #[.int .i64 n, .slice pX lX.length qX] 25) = W2 at *
  obtain ⟨XX, hXX⟩ : ∃ X, X = w2.heap.size := ⟨_, rfl⟩
  simp only [← hXX] at *
  clear hXX
  have OX : Hid (V.Few n lX (8 + 8)) := Lib.hid (by rw [EX.out]; exact OA.out.op OB.out V.orF (by omega))
  have HK : Hid (V.alikeL n lX lB = P) := Lib.hid (by rw [EX.out]; exact HL1.out.symm)
  refine (alike07_any n (.slice pX lX.length qX) (.slice pB lB.length qB) lX lB W2 HM.out ZX.out.set ZB.out.set OX.out.ok OB.out.ok).mono ?_
  rintro e w3 ⟨rfl, hb3⟩
  rw [HK.out]
  clear cX0 cX1 cB0 cB1
  replace ZA := Lib.hid (ZA.out.later hb3)
  replace ZB := Lib.hid (ZB.out.later hb3)
  replace ZX := Lib.hid (ZX.out.later hb3)
  replace HB := Lib.hid (HB.out.trans (hb3.mono HB.out.size))
  replace HM := Lib.hid (HM.out.below hb3)
  clear hb3
  obtain ⟨cA0, cA1⟩ := ZA.out.cells
  obtain ⟨cB0, cB1⟩ := ZB.out.cells
  rcases P with _ | _
  · go_wp2_with fail
    refine (awake07_any w3 HM.out).mono ?_
    rintro e w4 ⟨rfl, hb4⟩
    clear cA0 cA1 cB0 cB1
    replace ZA := Lib.hid (ZA.out.later hb4)
    replace ZB := Lib.hid (ZB.out.later hb4)
    replace ZX := Lib.hid (ZX.out.later hb4)
    replace HB := Lib.hid (HB.out.trans (hb4.mono HB.out.size))
    replace HM := Lib.hid (HM.out.below hb4)
    clear hb4
    obtain ⟨cA0, cA1⟩ := ZA.out.cells
    obtain ⟨cB0, cB1⟩ := ZB.out.cells
    go_wp2
    go_ret
    exact ⟨rfl, HB.out⟩
  · go_wp2_with fail
    refine (awake07_any w3 HM.out).mono ?_
    rintro e w4 ⟨rfl, hb4⟩
    clear cA0 cA1 cB0 cB1
    replace ZA := Lib.hid (ZA.out.later hb4)
    replace ZB := Lib.hid (ZB.out.later hb4)
    replace ZX := Lib.hid (ZX.out.later hb4)
    replace HB := Lib.hid (HB.out.trans (hb4.mono HB.out.size))
    replace HM := Lib.hid (HM.out.below hb4)
    clear hb4
    obtain ⟨cA0, cA1⟩ := ZA.out.cells
    obtain ⟨cB0, cB1⟩ := ZB.out.cells
    go_wp2_with fail
    rcases hca : V.containsL n lA v with _ | _
    · have HCA := Lib.hid hca
      clear hca
      refine (rgContains_any n (.slice pA lA.length qA) lA v w4 HM.out ZA.out.set (lens_ok OA.out.ok) (few_len OA.out) HVL.out).mono ?_
      rintro e w5 ⟨rfl, hb5⟩
      rw [HCA.out]
      clear cA0 cA1 cB0 cB1
      replace ZA := Lib.hid (ZA.out.later hb5)
      replace ZB := Lib.hid (ZB.out.later hb5)
      replace ZX := Lib.hid (ZX.out.later hb5)
      replace HB := Lib.hid (HB.out.trans (hb5.mono HB.out.size))
      replace HM := Lib.hid (HM.out.below hb5)
      clear hb5
      go_wp2
      go_ret
      exact ⟨rfl, HB.out⟩
    · have HCA := Lib.hid hca
      clear hca
      refine (rgContains_any n (.slice pA lA.length qA) lA v w4 HM.out ZA.out.set (lens_ok OA.out.ok) (few_len OA.out) HVL.out).mono ?_
      rintro e w5 ⟨rfl, hb5⟩
      rw [HCA.out]
      clear cA0 cA1 cB0 cB1
      replace ZA := Lib.hid (ZA.out.later hb5)
      replace ZB := Lib.hid (ZB.out.later hb5)
      replace ZX := Lib.hid (ZX.out.later hb5)
      replace HB := Lib.hid (HB.out.trans (hb5.mono HB.out.size))
      replace HM := Lib.hid (HM.out.below hb5)
      clear hb5
      obtain ⟨cB0, cB1⟩ := ZB.out.cells
      go_wp2_with fail
      have HCB : Hid (V.containsL n lB v = true) := Lib.hid (by first | exact HL2.out rfl HCA.out | exact HL2.out trivial HCA.out | exact HL2.out HCA.out)
      refine (rgContains_any n (.slice pB lB.length qB) lB v w5 HM.out ZB.out.set (lens_ok OB.out.ok) (few_len OB.out) HVL.out).mono ?_
      rintro e w6 ⟨rfl, hb6⟩
      rw [HCB.out]
      clear cB0 cB1
      replace ZA := Lib.hid (ZA.out.later hb6)
      replace ZB := Lib.hid (ZB.out.later hb6)
      replace ZX := Lib.hid (ZX.out.later hb6)
      replace HB := Lib.hid (HB.out.trans (hb6.mono HB.out.size))
      replace HM := Lib.hid (HM.out.below hb6)
      clear hb6
      go_wp2
      go_ret
      exact ⟨rfl, HB.out⟩
end Go.Proofs.YtolojkkhmamddaaGreatDoor

/-
  Walk: the law RangesAlgebra. (Printed by gen_NM.py.)
-/
import Derived.Test.YtolojkkhmamddaaGreatDoorNL
import Derived.Deep.RegionHeld3
namespace Go.Proofs.YtolojkkhmamddaaGreatDoor
open Go.RowKit

set_option maxRecDepth 100000 in
set_option maxHeartbeats 12800000 in
theorem rangesAlgebra_any (a : Option Addr) (m cap : Nat) (w : World) (hm : MaxOk w) (ht : Nums w a m) :
    Calls Tryz.prog 6 #[.slice a m cap] w fun e w' => e = .returned (.bool true) ∧ Below w.heap.size w w' := by
  have HM0 := Lib.hid hm
  have HT := Lib.hid ht
  clear hm ht
  go_enter Tryz.func6, Tryz.ntmps6
  go_wp2_with fail
  refine (made07_any a m cap w HM0.out HT.out).mono ?_
  rintro e w0 ⟨n, lA, lB, v, pA, qA, pB, qB, hn, hfa, hfb, hv, rfl, ha, hb, hb0⟩
  have OA := Lib.hid hfa
  have OB := Lib.hid hfb
  have HV := Lib.hid hv
  have HN := Lib.hid hn
  have hvl : (ByteArray.mk v.toArray).size ≤ 64 := by have := (V.valid_len hv).2; simpa [ByteArray.size] using this
  have HVL : Hid (v.length ≤ maxLen) := Lib.hid (by have := (V.valid_len hv).2; unfold maxLen; omega)
  obtain ⟨h2, ZA, ZB⟩ := two_boxes w0 n pA pB qA qB lA lB ha hb
  have HB := Lib.hid (hb0.trans (h2.mono hb0.size))
  have HM := Lib.hid (HM0.out.below HB.out)
  replace ZA := Lib.hid ZA
  replace ZB := Lib.hid ZB
  clear hn hfa hfb hv ha hb hb0 h2
  unfold setV
  obtain ⟨cA0, cA1⟩ := ZA.out.cells
  obtain ⟨cB0, cB1⟩ := ZB.out.cells
  go_wp2_with fail
  generalize (w0.alloc (.cells #[.int .i64 n, .slice pA lA.length qA] 25)).alloc (.cells #[.int .i64 n, .slice pB lB.length qB] 25) = W0 at *
  obtain ⟨XA, hXA⟩ : ∃ X, X = w0.heap.size := ⟨_, rfl⟩
  simp only [← hXA] at *
  obtain ⟨XB, hXB⟩ : ∃ X, X = XA + 1 := ⟨_, rfl⟩
  simp only [← hXB] at *
  clear hXB hXA
  have HLAW := Lib.hid (V.algebra_law OA.out OB.out)
  have ONIL := Lib.hid (V.Few.nil HN.out)
  have HOP1 := Lib.hid (V.opP_few V.orF OA.out OB.out (by omega))
  refine (rgUnion_any n n (.slice pA lA.length qA) (.slice pB lB.length qB) lA lB W0 HM.out ZA.out.set ZB.out.set (lens_ok OA.out.ok) (lens_ok OB.out.ok) (few_len OA.out) (few_len OB.out)).mono ?_
  rintro e w1 ⟨u1, rfl, hu1, _, hb1⟩
  rw [HOP1.out] at hu1 ⊢
  simp only at hu1 ⊢
  obtain ⟨lX, hlX⟩ : ∃ l, l = V.opL n V.orF lA lB := ⟨_, rfl⟩
  rw [← hlX] at hu1
  have EX := Lib.hid hlX
  clear hlX
  obtain ⟨pX, qX, rfl⟩ := hu1.slice
  unfold setV
  clear cA0 cA1 cB0 cB1
  have hbA1 : Below w1.heap.size w1 (w1.alloc (.cells #[.int .i64 n, .slice pX lX.length qX] 25)) := (Below.refl _ _).alloc (Nat.le_refl _) _
  have hbT1 := hb1.trans (hbA1.mono hb1.size)
  replace ZA := Lib.hid (ZA.out.later hbT1)
  replace ZB := Lib.hid (ZB.out.later hbT1)
  replace HB := Lib.hid (HB.out.trans (hbT1.mono HB.out.size))
  replace HM := Lib.hid (HM.out.below hbT1)
  have ZX : Hid (BoxAt (w1.alloc (.cells #[.int .i64 n, .slice pX lX.length qX] 25)) w1.heap.size n pX qX lX) := Lib.hid ⟨by rw [heap_alloc, if_pos rfl], hu1.below hbA1⟩
  clear hu1 hb1 hbA1 hbT1
  obtain ⟨cB0, cB1⟩ := ZB.out.cells
  obtain ⟨cA0, cA1⟩ := ZA.out.cells
  go_wp2_with fail
  generalize w1.alloc (.cells #[.int .i64 n, .slice pX lX.length qX] 25) = W1 at *
  obtain ⟨XX, hXX⟩ : ∃ X, X = w1.heap.size := ⟨_, rfl⟩
  simp only [← hXX] at *
  clear hXX
  have OX : Hid (V.Few n lX 16) := Lib.hid (by rw [EX.out]; exact few_up (OA.out.op OB.out V.orF (by omega)) (by omega))
  have HOP2 := Lib.hid (V.opP_few V.orF OB.out OA.out (by omega))
  refine (rgUnion_any n n (.slice pB lB.length qB) (.slice pA lA.length qA) lB lA W1 HM.out ZB.out.set ZA.out.set (lens_ok OB.out.ok) (lens_ok OA.out.ok) (few_len OB.out) (few_len OA.out)).mono ?_
  rintro e w2 ⟨u2, rfl, hu2, _, hb2⟩
  rw [HOP2.out] at hu2 ⊢
  simp only at hu2 ⊢
  obtain ⟨lY, hlY⟩ : ∃ l, l = V.opL n V.orF lB lA := ⟨_, rfl⟩
  rw [← hlY] at hu2
  have EY := Lib.hid hlY
  clear hlY
  obtain ⟨pY, qY, rfl⟩ := hu2.slice
  unfold setV
  clear cB0 cB1 cA0 cA1
  have hbA2 : Below w2.heap.size w2 (w2.alloc (.cells #[.int .i64 n, .slice pY lY.length qY] 25)) := (Below.refl _ _).alloc (Nat.le_refl _) _
  have hbT2 := hb2.trans (hbA2.mono hb2.size)
  replace ZA := Lib.hid (ZA.out.later hbT2)
  replace ZB := Lib.hid (ZB.out.later hbT2)
  replace ZX := Lib.hid (ZX.out.later hbT2)
  replace HB := Lib.hid (HB.out.trans (hbT2.mono HB.out.size))
  replace HM := Lib.hid (HM.out.below hbT2)
  have ZY : Hid (BoxAt (w2.alloc (.cells #[.int .i64 n, .slice pY lY.length qY] 25)) w2.heap.size n pY qY lY) := Lib.hid ⟨by rw [heap_alloc, if_pos rfl], hu2.below hbA2⟩
  clear hu2 hb2 hbA2 hbT2
  obtain ⟨cA0, cA1⟩ := ZA.out.cells
  obtain ⟨cB0, cB1⟩ := ZB.out.cells
  go_wp2_with fail
  generalize w2.alloc (.cells #[.int .i64 n, .slice pY lY.length qY] 25) = W2 at *
  obtain ⟨XY, hXY⟩ : ∃ X, X = w2.heap.size := ⟨_, rfl⟩
  simp only [← hXY] at *
  clear hXY
  have OY : Hid (V.Few n lY 16) := Lib.hid (by rw [EY.out]; exact few_up (OB.out.op OA.out V.orF (by omega)) (by omega))
  have HOP3 := Lib.hid (V.opP_few V.andF OA.out OB.out (by omega))
  refine (rgIntersect_any n n (.slice pA lA.length qA) (.slice pB lB.length qB) lA lB W2 HM.out ZA.out.set ZB.out.set (lens_ok OA.out.ok) (lens_ok OB.out.ok) (few_len OA.out) (few_len OB.out)).mono ?_
  rintro e w3 ⟨u3, rfl, hu3, _, hb3⟩
  rw [HOP3.out] at hu3 ⊢
  simp only at hu3 ⊢
  obtain ⟨lZ, hlZ⟩ : ∃ l, l = V.opL n V.andF lA lB := ⟨_, rfl⟩
  rw [← hlZ] at hu3
  have EZ := Lib.hid hlZ
  clear hlZ
  obtain ⟨pZ, qZ, rfl⟩ := hu3.slice
  unfold setV
  clear cA0 cA1 cB0 cB1
  have hbA3 : Below w3.heap.size w3 (w3.alloc (.cells #[.int .i64 n, .slice pZ lZ.length qZ] 25)) := (Below.refl _ _).alloc (Nat.le_refl _) _
  have hbT3 := hb3.trans (hbA3.mono hb3.size)
  replace ZA := Lib.hid (ZA.out.later hbT3)
  replace ZB := Lib.hid (ZB.out.later hbT3)
  replace ZX := Lib.hid (ZX.out.later hbT3)
  replace ZY := Lib.hid (ZY.out.later hbT3)
  replace HB := Lib.hid (HB.out.trans (hbT3.mono HB.out.size))
  replace HM := Lib.hid (HM.out.below hbT3)
  have ZZ : Hid (BoxAt (w3.alloc (.cells #[.int .i64 n, .slice pZ lZ.length qZ] 25)) w3.heap.size n pZ qZ lZ) := Lib.hid ⟨by rw [heap_alloc, if_pos rfl], hu3.below hbA3⟩
  clear hu3 hb3 hbA3 hbT3
  obtain ⟨cB0, cB1⟩ := ZB.out.cells
  obtain ⟨cA0, cA1⟩ := ZA.out.cells
  go_wp2_with fail
  generalize w3.alloc (.cells #[.int .i64 n, .slice pZ lZ.length qZ] 25) = W3 at *
  obtain ⟨XZ, hXZ⟩ : ∃ X, X = w3.heap.size := ⟨_, rfl⟩
  simp only [← hXZ] at *
  clear hXZ
  have OZ : Hid (V.Few n lZ 16) := Lib.hid (by rw [EZ.out]; exact few_up (OA.out.op OB.out V.andF (by omega)) (by omega))
  have HOP4 := Lib.hid (V.opP_few V.andF OB.out OA.out (by omega))
  refine (rgIntersect_any n n (.slice pB lB.length qB) (.slice pA lA.length qA) lB lA W3 HM.out ZB.out.set ZA.out.set (lens_ok OB.out.ok) (lens_ok OA.out.ok) (few_len OB.out) (few_len OA.out)).mono ?_
  rintro e w4 ⟨u4, rfl, hu4, _, hb4⟩
  rw [HOP4.out] at hu4 ⊢
  simp only at hu4 ⊢
  obtain ⟨lV, hlV⟩ : ∃ l, l = V.opL n V.andF lB lA := ⟨_, rfl⟩
  rw [← hlV] at hu4
  have EV := Lib.hid hlV
  clear hlV
  obtain ⟨pV, qV, rfl⟩ := hu4.slice
  unfold setV
  clear cB0 cB1 cA0 cA1
  have hbA4 : Below w4.heap.size w4 (w4.alloc (.cells #[.int .i64 n, .slice pV lV.length qV] 25)) := (Below.refl _ _).alloc (Nat.le_refl _) _
  have hbT4 := hb4.trans (hbA4.mono hb4.size)
  replace ZA := Lib.hid (ZA.out.later hbT4)
  replace ZB := Lib.hid (ZB.out.later hbT4)
  replace ZX := Lib.hid (ZX.out.later hbT4)
  replace ZY := Lib.hid (ZY.out.later hbT4)
  replace ZZ := Lib.hid (ZZ.out.later hbT4)
  replace HB := Lib.hid (HB.out.trans (hbT4.mono HB.out.size))
  replace HM := Lib.hid (HM.out.below hbT4)
  have ZV : Hid (BoxAt (w4.alloc (.cells #[.int .i64 n, .slice pV lV.length qV] 25)) w4.heap.size n pV qV lV) := Lib.hid ⟨by rw [heap_alloc, if_pos rfl], hu4.below hbA4⟩
  clear hu4 hb4 hbA4 hbT4
  obtain ⟨cA0, cA1⟩ := ZA.out.cells
  go_wp2_with fail
  generalize w4.alloc (.cells #[.int .i64 n, .slice pV lV.length qV] 25) = W4 at *
  obtain ⟨XV, hXV⟩ : ∃ X, X = w4.heap.size := ⟨_, rfl⟩
  simp only [← hXV] at *
  clear hXV
  have OV : Hid (V.Few n lV 16) := Lib.hid (by rw [EV.out]; exact few_up (OB.out.op OA.out V.andF (by omega)) (by omega))
  have HOP5 := Lib.hid (V.compP_few OA.out (by omega))
  refine (rgComplement_any n (.slice pA lA.length qA) lA W4 HM.out ZA.out.set (lens_ok OA.out.ok) (few_len OA.out)).mono ?_
  rintro e w5 ⟨u5, rfl, hu5, _, hb5⟩
  rw [HOP5.out] at hu5 ⊢
  simp only at hu5 ⊢
  obtain ⟨lC, hlC⟩ : ∃ l, l = V.opL n V.notF lA [] := ⟨_, rfl⟩
  rw [← hlC] at hu5
  have EC := Lib.hid hlC
  clear hlC
  obtain ⟨pC, qC, rfl⟩ := hu5.slice
  unfold setV
  clear cA0 cA1
  have hbA5 : Below w5.heap.size w5 (w5.alloc (.cells #[.int .i64 n, .slice pC lC.length qC] 25)) := (Below.refl _ _).alloc (Nat.le_refl _) _
  have hbT5 := hb5.trans (hbA5.mono hb5.size)
  replace ZA := Lib.hid (ZA.out.later hbT5)
  replace ZB := Lib.hid (ZB.out.later hbT5)
  replace ZX := Lib.hid (ZX.out.later hbT5)
  replace ZY := Lib.hid (ZY.out.later hbT5)
  replace ZZ := Lib.hid (ZZ.out.later hbT5)
  replace ZV := Lib.hid (ZV.out.later hbT5)
  replace HB := Lib.hid (HB.out.trans (hbT5.mono HB.out.size))
  replace HM := Lib.hid (HM.out.below hbT5)
  have ZC : Hid (BoxAt (w5.alloc (.cells #[.int .i64 n, .slice pC lC.length qC] 25)) w5.heap.size n pC qC lC) := Lib.hid ⟨by rw [heap_alloc, if_pos rfl], hu5.below hbA5⟩
  clear hu5 hb5 hbA5 hbT5
  obtain ⟨cC0, cC1⟩ := ZC.out.cells
  go_wp2_with fail
  generalize w5.alloc (.cells #[.int .i64 n, .slice pC lC.length qC] 25) = W5 at *
  obtain ⟨XC, hXC⟩ : ∃ X, X = w5.heap.size := ⟨_, rfl⟩
  simp only [← hXC] at *
  clear hXC
  have OC : Hid (V.Few n lC 8) := Lib.hid (by rw [EC.out]; exact few_up (OA.out.op ONIL.out V.notF (by omega)) (by omega))
  have HOP6 := Lib.hid (V.compP_few OC.out (by omega))
  refine (rgComplement_any n (.slice pC lC.length qC) lC W5 HM.out ZC.out.set (lens_ok OC.out.ok) (few_len OC.out)).mono ?_
  rintro e w6 ⟨u6, rfl, hu6, _, hb6⟩
  rw [HOP6.out] at hu6 ⊢
  simp only at hu6 ⊢
  obtain ⟨lD, hlD⟩ : ∃ l, l = V.opL n V.notF lC [] := ⟨_, rfl⟩
  rw [← hlD] at hu6
  have ED := Lib.hid hlD
  clear hlD
  obtain ⟨pD, qD, rfl⟩ := hu6.slice
  unfold setV
  clear cC0 cC1
  have hbA6 : Below w6.heap.size w6 (w6.alloc (.cells #[.int .i64 n, .slice pD lD.length qD] 25)) := (Below.refl _ _).alloc (Nat.le_refl _) _
  have hbT6 := hb6.trans (hbA6.mono hb6.size)
  replace ZA := Lib.hid (ZA.out.later hbT6)
  replace ZB := Lib.hid (ZB.out.later hbT6)
  replace ZX := Lib.hid (ZX.out.later hbT6)
  replace ZY := Lib.hid (ZY.out.later hbT6)
  replace ZZ := Lib.hid (ZZ.out.later hbT6)
  replace ZV := Lib.hid (ZV.out.later hbT6)
  replace ZC := Lib.hid (ZC.out.later hbT6)
  replace HB := Lib.hid (HB.out.trans (hbT6.mono HB.out.size))
  replace HM := Lib.hid (HM.out.below hbT6)
  have ZD : Hid (BoxAt (w6.alloc (.cells #[.int .i64 n, .slice pD lD.length qD] 25)) w6.heap.size n pD qD lD) := Lib.hid ⟨by rw [heap_alloc, if_pos rfl], hu6.below hbA6⟩
  clear hu6 hb6 hbA6 hbT6
  obtain ⟨cB0, cB1⟩ := ZB.out.cells
  go_wp2_with fail
  generalize w6.alloc (.cells #[.int .i64 n, .slice pD lD.length qD] 25) = W6 at *
  obtain ⟨XD, hXD⟩ : ∃ X, X = w6.heap.size := ⟨_, rfl⟩
  simp only [← hXD] at *
  clear hXD
  have OD : Hid (V.Few n lD 8) := Lib.hid (by rw [ED.out]; exact few_up (OC.out.op ONIL.out V.notF (by omega)) (by omega))
  have HOP7 := Lib.hid (V.compP_few OB.out (by omega))
  refine (rgComplement_any n (.slice pB lB.length qB) lB W6 HM.out ZB.out.set (lens_ok OB.out.ok) (few_len OB.out)).mono ?_
  rintro e w7 ⟨u7, rfl, hu7, _, hb7⟩
  rw [HOP7.out] at hu7 ⊢
  simp only at hu7 ⊢
  obtain ⟨lM, hlM⟩ : ∃ l, l = V.opL n V.notF lB [] := ⟨_, rfl⟩
  rw [← hlM] at hu7
  have EM := Lib.hid hlM
  clear hlM
  obtain ⟨pM, qM, rfl⟩ := hu7.slice
  unfold setV
  clear cB0 cB1
  have hbA7 : Below w7.heap.size w7 (w7.alloc (.cells #[.int .i64 n, .slice pM lM.length qM] 25)) := (Below.refl _ _).alloc (Nat.le_refl _) _
  have hbT7 := hb7.trans (hbA7.mono hb7.size)
  replace ZA := Lib.hid (ZA.out.later hbT7)
  replace ZB := Lib.hid (ZB.out.later hbT7)
  replace ZX := Lib.hid (ZX.out.later hbT7)
  replace ZY := Lib.hid (ZY.out.later hbT7)
  replace ZZ := Lib.hid (ZZ.out.later hbT7)
  replace ZV := Lib.hid (ZV.out.later hbT7)
  replace ZC := Lib.hid (ZC.out.later hbT7)
  replace ZD := Lib.hid (ZD.out.later hbT7)
  replace HB := Lib.hid (HB.out.trans (hbT7.mono HB.out.size))
  replace HM := Lib.hid (HM.out.below hbT7)
  have ZM : Hid (BoxAt (w7.alloc (.cells #[.int .i64 n, .slice pM lM.length qM] 25)) w7.heap.size n pM qM lM) := Lib.hid ⟨by rw [heap_alloc, if_pos rfl], hu7.below hbA7⟩
  clear hu7 hb7 hbA7 hbT7
  obtain ⟨cX0, cX1⟩ := ZX.out.cells
  go_wp2_with fail
  generalize w7.alloc (.cells #[.int .i64 n, .slice pM lM.length qM] 25) = W7 at *
  obtain ⟨XM, hXM⟩ : ∃ X, X = w7.heap.size := ⟨_, rfl⟩
  simp only [← hXM] at *
  clear hXM
  have OM : Hid (V.Few n lM 8) := Lib.hid (by rw [EM.out]; exact few_up (OB.out.op ONIL.out V.notF (by omega)) (by omega))
  have HOP8 := Lib.hid (V.compP_few OX.out (by omega))
  refine (rgComplement_any n (.slice pX lX.length qX) lX W7 HM.out ZX.out.set (lens_ok OX.out.ok) (few_len OX.out)).mono ?_
  rintro e w8 ⟨u8, rfl, hu8, _, hb8⟩
  rw [HOP8.out] at hu8 ⊢
  simp only at hu8 ⊢
  obtain ⟨lU, hlU⟩ : ∃ l, l = V.opL n V.notF lX [] := ⟨_, rfl⟩
  rw [← hlU] at hu8
  have EU := Lib.hid hlU
  clear hlU
  obtain ⟨pU, qU, rfl⟩ := hu8.slice
  unfold setV
  clear cX0 cX1
  have hbA8 : Below w8.heap.size w8 (w8.alloc (.cells #[.int .i64 n, .slice pU lU.length qU] 25)) := (Below.refl _ _).alloc (Nat.le_refl _) _
  have hbT8 := hb8.trans (hbA8.mono hb8.size)
  replace ZA := Lib.hid (ZA.out.later hbT8)
  replace ZB := Lib.hid (ZB.out.later hbT8)
  replace ZX := Lib.hid (ZX.out.later hbT8)
  replace ZY := Lib.hid (ZY.out.later hbT8)
  replace ZZ := Lib.hid (ZZ.out.later hbT8)
  replace ZV := Lib.hid (ZV.out.later hbT8)
  replace ZC := Lib.hid (ZC.out.later hbT8)
  replace ZD := Lib.hid (ZD.out.later hbT8)
  replace ZM := Lib.hid (ZM.out.later hbT8)
  replace HB := Lib.hid (HB.out.trans (hbT8.mono HB.out.size))
  replace HM := Lib.hid (HM.out.below hbT8)
  have ZU : Hid (BoxAt (w8.alloc (.cells #[.int .i64 n, .slice pU lU.length qU] 25)) w8.heap.size n pU qU lU) := Lib.hid ⟨by rw [heap_alloc, if_pos rfl], hu8.below hbA8⟩
  clear hu8 hb8 hbA8 hbT8
  obtain ⟨cC0, cC1⟩ := ZC.out.cells
  obtain ⟨cM0, cM1⟩ := ZM.out.cells
  go_wp2_with fail
  generalize w8.alloc (.cells #[.int .i64 n, .slice pU lU.length qU] 25) = W8 at *
  obtain ⟨XU, hXU⟩ : ∃ X, X = w8.heap.size := ⟨_, rfl⟩
  simp only [← hXU] at *
  clear hXU
  have OU : Hid (V.Few n lU 16) := Lib.hid (by rw [EU.out]; exact few_up (OX.out.op ONIL.out V.notF (by omega)) (by omega))
  have HOP9 := Lib.hid (V.opP_few V.andF OC.out OM.out (by omega))
  refine (rgIntersect_any n n (.slice pC lC.length qC) (.slice pM lM.length qM) lC lM W8 HM.out ZC.out.set ZM.out.set (lens_ok OC.out.ok) (lens_ok OM.out.ok) (few_len OC.out) (few_len OM.out)).mono ?_
  rintro e w9 ⟨u9, rfl, hu9, _, hb9⟩
  rw [HOP9.out] at hu9 ⊢
  simp only at hu9 ⊢
  obtain ⟨lW, hlW⟩ : ∃ l, l = V.opL n V.andF lC lM := ⟨_, rfl⟩
  rw [← hlW] at hu9
  have EW := Lib.hid hlW
  clear hlW
  obtain ⟨pW, qW, rfl⟩ := hu9.slice
  unfold setV
  clear cC0 cC1 cM0 cM1
  have hbA9 : Below w9.heap.size w9 (w9.alloc (.cells #[.int .i64 n, .slice pW lW.length qW] 25)) := (Below.refl _ _).alloc (Nat.le_refl _) _
  have hbT9 := hb9.trans (hbA9.mono hb9.size)
  replace ZA := Lib.hid (ZA.out.later hbT9)
  replace ZB := Lib.hid (ZB.out.later hbT9)
  replace ZX := Lib.hid (ZX.out.later hbT9)
  replace ZY := Lib.hid (ZY.out.later hbT9)
  replace ZZ := Lib.hid (ZZ.out.later hbT9)
  replace ZV := Lib.hid (ZV.out.later hbT9)
  replace ZC := Lib.hid (ZC.out.later hbT9)
  replace ZD := Lib.hid (ZD.out.later hbT9)
  replace ZM := Lib.hid (ZM.out.later hbT9)
  replace ZU := Lib.hid (ZU.out.later hbT9)
  replace HB := Lib.hid (HB.out.trans (hbT9.mono HB.out.size))
  replace HM := Lib.hid (HM.out.below hbT9)
  have ZW : Hid (BoxAt (w9.alloc (.cells #[.int .i64 n, .slice pW lW.length qW] 25)) w9.heap.size n pW qW lW) := Lib.hid ⟨by rw [heap_alloc, if_pos rfl], hu9.below hbA9⟩
  clear hu9 hb9 hbA9 hbT9
  obtain ⟨cA0, cA1⟩ := ZA.out.cells
  obtain ⟨cX0, cX1⟩ := ZX.out.cells
  go_wp2_with fail
  generalize w9.alloc (.cells #[.int .i64 n, .slice pW lW.length qW] 25) = W9 at *
  obtain ⟨XW, hXW⟩ : ∃ X, X = w9.heap.size := ⟨_, rfl⟩
  simp only [← hXW] at *
  clear hXW
  have OW : Hid (V.Few n lW 16) := Lib.hid (by rw [EW.out]; exact few_up (OC.out.op OM.out V.andF (by omega)) (by omega))
  have HAX := Lib.hid (V.subP_ok OA.out.ok OX.out.ok)
  have HSUB : Hid (V.subL n lA lX = true) := Lib.hid (by rw [EX.out]; exact HLAW.out.1)
  have HXY : Hid (V.alikeL n lX lY = true) := Lib.hid (by rw [EX.out, EY.out]; exact HLAW.out.2.1)
  have HZV : Hid (V.alikeL n lZ lV = true) := Lib.hid (by rw [EZ.out, EV.out]; exact HLAW.out.2.2.1)
  have HDA : Hid (V.alikeL n lD lA = true) := Lib.hid (by rw [ED.out, EC.out]; exact HLAW.out.2.2.2.1)
  have HUW : Hid (V.alikeL n lU lW = true) := Lib.hid (by rw [EU.out, EW.out, EX.out, EC.out, EM.out]; exact HLAW.out.2.2.2.2)
  have HVX := Lib.hid (V.of_ok OX.out.ok)
  have HVC := Lib.hid (V.of_ok OC.out.ok)
  refine (rgSubset_any n n (.slice pA lA.length qA) (.slice pX lX.length qX) lA lX W9 HM.out ZA.out.set ZX.out.set (lens_ok OA.out.ok) (lens_ok OX.out.ok) (few_len OA.out) (few_len OX.out)).mono ?_
  rintro e w10 ⟨rfl, hb10⟩
  rw [HAX.out, HSUB.out]
  simp only
  clear cA0 cA1 cX0 cX1
  replace ZA := Lib.hid (ZA.out.later hb10)
  replace ZB := Lib.hid (ZB.out.later hb10)
  replace ZX := Lib.hid (ZX.out.later hb10)
  replace ZY := Lib.hid (ZY.out.later hb10)
  replace ZZ := Lib.hid (ZZ.out.later hb10)
  replace ZV := Lib.hid (ZV.out.later hb10)
  replace ZC := Lib.hid (ZC.out.later hb10)
  replace ZD := Lib.hid (ZD.out.later hb10)
  replace ZM := Lib.hid (ZM.out.later hb10)
  replace ZU := Lib.hid (ZU.out.later hb10)
  replace ZW := Lib.hid (ZW.out.later hb10)
  replace HB := Lib.hid (HB.out.trans (hb10.mono HB.out.size))
  replace HM := Lib.hid (HM.out.below hb10)
  clear hb10
  go_wp2_with fail
  refine (awake07_any w10 HM.out).mono ?_
  rintro e w11 ⟨rfl, hb11⟩
  replace ZA := Lib.hid (ZA.out.later hb11)
  replace ZB := Lib.hid (ZB.out.later hb11)
  replace ZX := Lib.hid (ZX.out.later hb11)
  replace ZY := Lib.hid (ZY.out.later hb11)
  replace ZZ := Lib.hid (ZZ.out.later hb11)
  replace ZV := Lib.hid (ZV.out.later hb11)
  replace ZC := Lib.hid (ZC.out.later hb11)
  replace ZD := Lib.hid (ZD.out.later hb11)
  replace ZM := Lib.hid (ZM.out.later hb11)
  replace ZU := Lib.hid (ZU.out.later hb11)
  replace ZW := Lib.hid (ZW.out.later hb11)
  replace HB := Lib.hid (HB.out.trans (hb11.mono HB.out.size))
  replace HM := Lib.hid (HM.out.below hb11)
  clear hb11
  obtain ⟨cX0, cX1⟩ := ZX.out.cells
  obtain ⟨cY0, cY1⟩ := ZY.out.cells
  go_wp2_with fail
  refine (alike07_any n (.slice pX lX.length qX) (.slice pY lY.length qY) lX lY w11 HM.out ZX.out.set ZY.out.set OX.out.ok OY.out.ok).mono ?_
  rintro e w12 ⟨rfl, hb12⟩
  rw [HXY.out]
  clear cX0 cX1 cY0 cY1
  replace ZA := Lib.hid (ZA.out.later hb12)
  replace ZB := Lib.hid (ZB.out.later hb12)
  replace ZX := Lib.hid (ZX.out.later hb12)
  replace ZY := Lib.hid (ZY.out.later hb12)
  replace ZZ := Lib.hid (ZZ.out.later hb12)
  replace ZV := Lib.hid (ZV.out.later hb12)
  replace ZC := Lib.hid (ZC.out.later hb12)
  replace ZD := Lib.hid (ZD.out.later hb12)
  replace ZM := Lib.hid (ZM.out.later hb12)
  replace ZU := Lib.hid (ZU.out.later hb12)
  replace ZW := Lib.hid (ZW.out.later hb12)
  replace HB := Lib.hid (HB.out.trans (hb12.mono HB.out.size))
  replace HM := Lib.hid (HM.out.below hb12)
  clear hb12
  obtain ⟨cZ0, cZ1⟩ := ZZ.out.cells
  obtain ⟨cV0, cV1⟩ := ZV.out.cells
  go_wp2_with fail
  refine (alike07_any n (.slice pZ lZ.length qZ) (.slice pV lV.length qV) lZ lV w12 HM.out ZZ.out.set ZV.out.set OZ.out.ok OV.out.ok).mono ?_
  rintro e w13 ⟨rfl, hb13⟩
  rw [HZV.out]
  clear cZ0 cZ1 cV0 cV1
  replace ZA := Lib.hid (ZA.out.later hb13)
  replace ZB := Lib.hid (ZB.out.later hb13)
  replace ZX := Lib.hid (ZX.out.later hb13)
  replace ZY := Lib.hid (ZY.out.later hb13)
  replace ZZ := Lib.hid (ZZ.out.later hb13)
  replace ZV := Lib.hid (ZV.out.later hb13)
  replace ZC := Lib.hid (ZC.out.later hb13)
  replace ZD := Lib.hid (ZD.out.later hb13)
  replace ZM := Lib.hid (ZM.out.later hb13)
  replace ZU := Lib.hid (ZU.out.later hb13)
  replace ZW := Lib.hid (ZW.out.later hb13)
  replace HB := Lib.hid (HB.out.trans (hb13.mono HB.out.size))
  replace HM := Lib.hid (HM.out.below hb13)
  clear hb13
  obtain ⟨cD0, cD1⟩ := ZD.out.cells
  obtain ⟨cA0, cA1⟩ := ZA.out.cells
  go_wp2_with fail
  refine (alike07_any n (.slice pD lD.length qD) (.slice pA lA.length qA) lD lA w13 HM.out ZD.out.set ZA.out.set OD.out.ok OA.out.ok).mono ?_
  rintro e w14 ⟨rfl, hb14⟩
  rw [HDA.out]
  clear cD0 cD1 cA0 cA1
  replace ZA := Lib.hid (ZA.out.later hb14)
  replace ZB := Lib.hid (ZB.out.later hb14)
  replace ZX := Lib.hid (ZX.out.later hb14)
  replace ZY := Lib.hid (ZY.out.later hb14)
  replace ZZ := Lib.hid (ZZ.out.later hb14)
  replace ZV := Lib.hid (ZV.out.later hb14)
  replace ZC := Lib.hid (ZC.out.later hb14)
  replace ZD := Lib.hid (ZD.out.later hb14)
  replace ZM := Lib.hid (ZM.out.later hb14)
  replace ZU := Lib.hid (ZU.out.later hb14)
  replace ZW := Lib.hid (ZW.out.later hb14)
  replace HB := Lib.hid (HB.out.trans (hb14.mono HB.out.size))
  replace HM := Lib.hid (HM.out.below hb14)
  clear hb14
  obtain ⟨cU0, cU1⟩ := ZU.out.cells
  obtain ⟨cW0, cW1⟩ := ZW.out.cells
  go_wp2_with fail
  refine (alike07_any n (.slice pU lU.length qU) (.slice pW lW.length qW) lU lW w14 HM.out ZU.out.set ZW.out.set OU.out.ok OW.out.ok).mono ?_
  rintro e w15 ⟨rfl, hb15⟩
  rw [HUW.out]
  clear cU0 cU1 cW0 cW1
  replace ZA := Lib.hid (ZA.out.later hb15)
  replace ZB := Lib.hid (ZB.out.later hb15)
  replace ZX := Lib.hid (ZX.out.later hb15)
  replace ZY := Lib.hid (ZY.out.later hb15)
  replace ZZ := Lib.hid (ZZ.out.later hb15)
  replace ZV := Lib.hid (ZV.out.later hb15)
  replace ZC := Lib.hid (ZC.out.later hb15)
  replace ZD := Lib.hid (ZD.out.later hb15)
  replace ZM := Lib.hid (ZM.out.later hb15)
  replace ZU := Lib.hid (ZU.out.later hb15)
  replace ZW := Lib.hid (ZW.out.later hb15)
  replace HB := Lib.hid (HB.out.trans (hb15.mono HB.out.size))
  replace HM := Lib.hid (HM.out.below hb15)
  clear hb15
  obtain ⟨cX0, cX1⟩ := ZX.out.cells
  go_wp2_with fail
  refine (rgValid_any n (.slice pX lX.length qX) lX w15 HM.out ZX.out.set (lens_ok OX.out.ok) (few_len OX.out)).mono ?_
  rintro e w16 ⟨rfl, hb16⟩
  rw [HVX.out]
  clear cX0 cX1
  replace ZA := Lib.hid (ZA.out.later hb16)
  replace ZB := Lib.hid (ZB.out.later hb16)
  replace ZX := Lib.hid (ZX.out.later hb16)
  replace ZY := Lib.hid (ZY.out.later hb16)
  replace ZZ := Lib.hid (ZZ.out.later hb16)
  replace ZV := Lib.hid (ZV.out.later hb16)
  replace ZC := Lib.hid (ZC.out.later hb16)
  replace ZD := Lib.hid (ZD.out.later hb16)
  replace ZM := Lib.hid (ZM.out.later hb16)
  replace ZU := Lib.hid (ZU.out.later hb16)
  replace ZW := Lib.hid (ZW.out.later hb16)
  replace HB := Lib.hid (HB.out.trans (hb16.mono HB.out.size))
  replace HM := Lib.hid (HM.out.below hb16)
  clear hb16
  obtain ⟨cC0, cC1⟩ := ZC.out.cells
  go_wp2_with fail
  refine (rgValid_any n (.slice pC lC.length qC) lC w16 HM.out ZC.out.set (lens_ok OC.out.ok) (few_len OC.out)).mono ?_
  rintro e w17 ⟨rfl, hb17⟩
  rw [HVC.out]
  clear cC0 cC1
  replace ZA := Lib.hid (ZA.out.later hb17)
  replace ZB := Lib.hid (ZB.out.later hb17)
  replace ZX := Lib.hid (ZX.out.later hb17)
  replace ZY := Lib.hid (ZY.out.later hb17)
  replace ZZ := Lib.hid (ZZ.out.later hb17)
  replace ZV := Lib.hid (ZV.out.later hb17)
  replace ZC := Lib.hid (ZC.out.later hb17)
  replace ZD := Lib.hid (ZD.out.later hb17)
  replace ZM := Lib.hid (ZM.out.later hb17)
  replace ZU := Lib.hid (ZU.out.later hb17)
  replace ZW := Lib.hid (ZW.out.later hb17)
  replace HB := Lib.hid (HB.out.trans (hb17.mono HB.out.size))
  replace HM := Lib.hid (HM.out.below hb17)
  clear hb17
  go_wp2
  go_ret
  exact ⟨rfl, HB.out⟩
end Go.Proofs.YtolojkkhmamddaaGreatDoor

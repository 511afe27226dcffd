/-
  Walk: the law RangesBoolean. (Printed by gen_NM.py.)
-/
import Derived.Test.YtolojkkhmamddaaGreatDoorNL
import Derived.Deep.RegionHeld3
namespace Go.Proofs.YtolojkkhmamddaaGreatDoor
open Go.RowKit

set_option maxRecDepth 100000 in
set_option maxHeartbeats 12800000 in
theorem rangesBoolean_any (a : Option Addr) (m cap : Nat) (w : World) (hm : MaxOk w) (ht : Nums w a m) :
    Calls Tryz.prog 4 #[.slice a m cap] w fun e w' => e = .returned (.bool true) ∧ Below w.heap.size w w' := by
  have HM0 := Lib.hid hm
  have HT := Lib.hid ht
  clear hm ht
  go_enter Tryz.func4, Tryz.ntmps4
  go_wp2_with fail
  refine (made07_any a m cap w HM0.out HT.out).mono ?_
  rintro e w0 ⟨n, lA, lB, v, pA, qA, pB, qB, hn, hfa, hfb, hv, rfl, ha, hb, hb0⟩
  have OA := Lib.hid hfa
  have OB := Lib.hid hfb
  have HV := Lib.hid hv
  have HN := Lib.hid hn
  have hvl : (ByteArray.mk v.toArray).size ≤ 64 := by have := (V.valid_len hv).2; simpa [ByteArray.size] using this
  have HVL : Hid (v.length ≤ maxLen) := Lib.hid (by have := (V.valid_len hv).2; unfold maxLen; omega)
  obtain ⟨h2, ZA, ZB⟩ := two_boxes w0 n pA pB qA qB lA lB ha hb
  have HB := Lib.hid (hb0.trans (h2.mono hb0.size))
  have HM := Lib.hid (HM0.out.below HB.out)
  replace ZA := Lib.hid ZA
  replace ZB := Lib.hid ZB
  clear hn hfa hfb hv ha hb hb0 h2
  unfold setV
  obtain ⟨cA0, cA1⟩ := ZA.out.cells
  obtain ⟨cB0, cB1⟩ := ZB.out.cells
  go_wp2_with fail
  generalize (w0.alloc (.cells #[.int .i64 n, .slice pA lA.length qA] 25)).alloc (.cells #[.int .i64 n, .slice pB lB.length qB] 25) = W0 at *
  obtain ⟨XA, hXA⟩ : ∃ X, X = w0.heap.size := ⟨_, rfl⟩
  simp only [← hXA] at *
  obtain ⟨XB, hXB⟩ : ∃ X, X = XA + 1 := ⟨_, rfl⟩
  simp only [← hXB] at *
  clear hXB hXA
  have HLAW := Lib.hid (V.boolean_law OA.out OB.out HV.out)
  have ONIL := Lib.hid (V.Few.nil HN.out)
  obtain ⟨P, hP⟩ : ∃ P, P = V.containsL n lA v := ⟨_, rfl⟩
  obtain ⟨Q, hQ⟩ : ∃ Q, Q = V.containsL n lB v := ⟨_, rfl⟩
  rw [← hP, ← hQ] at HLAW
  have HP := Lib.hid hP.symm
  have HQ := Lib.hid hQ.symm
  clear hP hQ
  refine wp_region_held_drew (S := (fun W' => Below W0.heap.size W0 W' ∧ W'.cell? ⟨XA, 0, none⟩ = some (.int .i64 n) ∧ W'.cell? ⟨XA, 1, none⟩ = some (.slice pA lA.length qA) ∧ W'.cell? ⟨XB, 0, none⟩ = some (.int .i64 n) ∧ W'.cell? ⟨XB, 1, none⟩ = some (.slice pB lB.length qB))) (by kernel_rfl) (by (try dsimp only); (try simp only [World.cell?_drew]); exact ⟨(Below.refl _ _).drew, cA0, cA1, cB0, cB1⟩) (fun hHeld => ?_)
  refine wpAnyH_take (i := 0) (v := ?_) rfl (by kernel_rfl) (by kernel_rfl) (by kernel_rfl) (fun _ _ _ h => h) (Or.inl ⟨by rfl, ?_⟩) (by assumption) ?_
  rotate_left
  · (intro w' hSw; (try dsimp only at hSw); go_simp; try with_reducible rfl)
  try simp only [List.getElem_toArray, List.getElem_cons_zero, Act.put, List.setIfInBounds_toArray, List.set_cons_succ, List.set_cons_zero]
  refine wpAnyH_take (i := 1) (v := ?_) rfl (by kernel_rfl) (by kernel_rfl) (by kernel_rfl) (fun _ _ _ h => h) (Or.inl ⟨by rfl, ?_⟩) (by assumption) ?_
  rotate_left
  · (intro w' hSw; (try dsimp only at hSw); go_simp; try with_reducible rfl)
  try simp only [List.getElem_toArray, List.getElem_cons_succ, List.getElem_cons_zero, Act.put, List.setIfInBounds_toArray, List.set_cons_succ, List.set_cons_zero]
  refine wpAnyH_take (i := 3) (v := ?_) rfl (by kernel_rfl) (by kernel_rfl) (by kernel_rfl) (fun _ _ _ h => h) (Or.inl ⟨by rfl, ?_⟩) (by assumption) ?_
  rotate_left
  · (intro w' hSw; (try dsimp only at hSw); go_simp; try with_reducible rfl)
  try simp only [List.getElem_toArray, List.getElem_cons_succ, List.getElem_cons_zero, Act.put, List.setIfInBounds_toArray, List.set_cons_succ, List.set_cons_zero]
  refine wpAnyH_take (i := 4) (v := ?_) rfl (by kernel_rfl) (by kernel_rfl) (by kernel_rfl) (fun _ _ _ h => h) (Or.inl ⟨by rfl, ?_⟩) (by assumption) ?_
  rotate_left
  · (intro w' hSw; (try dsimp only at hSw); go_simp; try with_reducible rfl)
  try simp only [List.getElem_toArray, List.getElem_cons_succ, List.getElem_cons_zero, Act.put, List.setIfInBounds_toArray, List.set_cons_succ, List.set_cons_zero]
  refine wpAnyH_ready (rs := [2]) (by kernel_rfl) (by simp) ?_
  refine AllReadyH.cons (o := _) rfl (fun K hK => ?_) AllReadyH.nil
  go_simp
  refine (rgContains_any n (.slice pA lA.length qA) lA v _ (HM.out.below (show Below W0.heap.size W0 _ from (by first | assumption | exact And.left (by assumption)))) (ZA.out.set.below (show Below W0.heap.size W0 _ from (by first | assumption | exact And.left (by assumption)))) (lens_ok OA.out.ok) (few_len OA.out) HVL.out).mono ?_
  rintro e wc1x2 ⟨rfl, hbc1x2⟩
  try dsimp only
  rw [HP.out]
  refine hK.out _ _ ?_ (fun hHeld => ?_)
  · (try dsimp only); go_split_ands; exact ⟨Below.trans (by assumption) (hbc1x2.mono (Below.size (by assumption))), below_keep hbc1x2 (by assumption), below_keep hbc1x2 (by assumption), below_keep hbc1x2 (by assumption), below_keep hbc1x2 (by assumption)⟩
  clear hK K
  try simp only [List.getElem_toArray, List.getElem_cons_succ, List.getElem_cons_zero, Act.put, List.setIfInBounds_toArray, List.set_cons_succ, List.set_cons_zero]
  refine wpAnyH_ready (rs := [5]) (by kernel_rfl) (by simp) ?_
  refine AllReadyH.cons (o := _) rfl (fun K hK => ?_) AllReadyH.nil
  go_simp
  refine (rgContains_any n (.slice pB lB.length qB) lB v _ (HM.out.below (show Below W0.heap.size W0 _ from (by first | assumption | exact And.left (by assumption)))) (ZB.out.set.below (show Below W0.heap.size W0 _ from (by first | assumption | exact And.left (by assumption)))) (lens_ok OB.out.ok) (few_len OB.out) HVL.out).mono ?_
  rintro e wc1x5 ⟨rfl, hbc1x5⟩
  try dsimp only
  rw [HQ.out]
  refine hK.out _ _ ?_ (fun hHeld => ?_)
  · (try dsimp only); go_split_ands; exact ⟨Below.trans (by assumption) (hbc1x5.mono (Below.size (by assumption))), below_keep hbc1x5 (by assumption), below_keep hbc1x5 (by assumption), below_keep hbc1x5 (by assumption), below_keep hbc1x5 (by assumption)⟩
  clear hK K
  try simp only [List.getElem_toArray, List.getElem_cons_succ, List.getElem_cons_zero, Act.put, List.setIfInBounds_toArray, List.set_cons_succ, List.set_cons_zero]
  refine wpAnyH_take (i := 6) (v := ?_) rfl (by kernel_rfl) (by kernel_rfl) (by kernel_rfl) (fun _ _ _ h => h) (Or.inl ⟨by rfl, ?_⟩) (by assumption) ?_
  rotate_left
  · (intro w' hSw; (try dsimp only at hSw); go_simp; try with_reducible rfl)
  try simp only [List.getElem_toArray, List.getElem_cons_succ, List.getElem_cons_zero, Act.put, List.setIfInBounds_toArray, List.set_cons_succ, List.set_cons_zero]
  refine wpAnyH_take (i := 7) (v := ?_) rfl (by kernel_rfl) (by kernel_rfl) (by kernel_rfl) (fun _ _ _ h => h) (Or.inl ⟨by rfl, ?_⟩) (by assumption) ?_
  rotate_left
  · (intro w' hSw; (try dsimp only at hSw); go_simp; try with_reducible rfl)
  try simp only [List.getElem_toArray, List.getElem_cons_succ, List.getElem_cons_zero, Act.put, List.setIfInBounds_toArray, List.set_cons_succ, List.set_cons_zero]
  refine wpAnyH_done (by kernel_rfl) ?_ _
  have hbS1 := (show Below W0.heap.size W0 wc1x5 from hHeld.1)
  clear cA0 cA1 cB0 cB1
  replace ZA := Lib.hid (ZA.out.later hbS1)
  replace ZB := Lib.hid (ZB.out.later hbS1)
  replace HB := Lib.hid (HB.out.trans (hbS1.mono HB.out.size))
  replace HM := Lib.hid (HM.out.below hbS1)
  clear hHeld hbS1 hbc1x2 hbc1x5
  obtain ⟨cA0, cA1⟩ := ZA.out.cells
  obtain ⟨cB0, cB1⟩ := ZB.out.cells
  go_wp2_with fail
  have HOP1 := Lib.hid (V.opP_few V.orF OA.out OB.out (by omega))
  refine (rgUnion_any n n (.slice pA lA.length qA) (.slice pB lB.length qB) lA lB wc1x5 HM.out ZA.out.set ZB.out.set (lens_ok OA.out.ok) (lens_ok OB.out.ok) (few_len OA.out) (few_len OB.out)).mono ?_
  rintro e w2 ⟨u2, rfl, hu2, _, hb2⟩
  rw [HOP1.out] at hu2 ⊢
  simp only at hu2 ⊢
  obtain ⟨lX, hlX⟩ : ∃ l, l = V.opL n V.orF lA lB := ⟨_, rfl⟩
  rw [← hlX] at hu2
  have EX := Lib.hid hlX
  clear hlX
  obtain ⟨pX, qX, rfl⟩ := hu2.slice
  unfold setV
  clear cA0 cA1 cB0 cB1
  have hbA2 : Below w2.heap.size w2 (w2.alloc (.cells #[.int .i64 n, .slice pX lX.length qX] 25)) := (Below.refl _ _).alloc (Nat.le_refl _) _
  have hbT2 := hb2.trans (hbA2.mono hb2.size)
  replace ZA := Lib.hid (ZA.out.later hbT2)
  replace ZB := Lib.hid (ZB.out.later hbT2)
  replace HB := Lib.hid (HB.out.trans (hbT2.mono HB.out.size))
  replace HM := Lib.hid (HM.out.below hbT2)
  have ZX : Hid (BoxAt (w2.alloc (.cells #[.int .i64 n, .slice pX lX.length qX] 25)) w2.heap.size n pX qX lX) := Lib.hid ⟨by rw [heap_alloc, if_pos rfl], hu2.below hbA2⟩
  clear hu2 hb2 hbA2 hbT2
  obtain ⟨cA0, cA1⟩ := ZA.out.cells
  obtain ⟨cB0, cB1⟩ := ZB.out.cells
  go_wp2_with fail
  generalize w2.alloc (.cells #[.int .i64 n, .slice pX lX.length qX] 25) = W2 at *
  obtain ⟨XX, hXX⟩ : ∃ X, X = w2.heap.size := ⟨_, rfl⟩
  simp only [← hXX] at *
  clear hXX
  have OX : Hid (V.Few n lX 16) := Lib.hid (by rw [EX.out]; exact few_up (OA.out.op OB.out V.orF (by omega)) (by omega))
  have HOP2 := Lib.hid (V.opP_few V.andF OA.out OB.out (by omega))
  refine (rgIntersect_any n n (.slice pA lA.length qA) (.slice pB lB.length qB) lA lB W2 HM.out ZA.out.set ZB.out.set (lens_ok OA.out.ok) (lens_ok OB.out.ok) (few_len OA.out) (few_len OB.out)).mono ?_
  rintro e w3 ⟨u3, rfl, hu3, _, hb3⟩
  rw [HOP2.out] at hu3 ⊢
  simp only at hu3 ⊢
  obtain ⟨lY, hlY⟩ : ∃ l, l = V.opL n V.andF lA lB := ⟨_, rfl⟩
  rw [← hlY] at hu3
  have EY := Lib.hid hlY
  clear hlY
  obtain ⟨pY, qY, rfl⟩ := hu3.slice
  unfold setV
  clear cA0 cA1 cB0 cB1
  have hbA3 : Below w3.heap.size w3 (w3.alloc (.cells #[.int .i64 n, .slice pY lY.length qY] 25)) := (Below.refl _ _).alloc (Nat.le_refl _) _
  have hbT3 := hb3.trans (hbA3.mono hb3.size)
  replace ZA := Lib.hid (ZA.out.later hbT3)
  replace ZB := Lib.hid (ZB.out.later hbT3)
  replace ZX := Lib.hid (ZX.out.later hbT3)
  replace HB := Lib.hid (HB.out.trans (hbT3.mono HB.out.size))
  replace HM := Lib.hid (HM.out.below hbT3)
  have ZY : Hid (BoxAt (w3.alloc (.cells #[.int .i64 n, .slice pY lY.length qY] 25)) w3.heap.size n pY qY lY) := Lib.hid ⟨by rw [heap_alloc, if_pos rfl], hu3.below hbA3⟩
  clear hu3 hb3 hbA3 hbT3
  obtain ⟨cA0, cA1⟩ := ZA.out.cells
  obtain ⟨cB0, cB1⟩ := ZB.out.cells
  go_wp2_with fail
  generalize w3.alloc (.cells #[.int .i64 n, .slice pY lY.length qY] 25) = W3 at *
  obtain ⟨XY, hXY⟩ : ∃ X, X = w3.heap.size := ⟨_, rfl⟩
  simp only [← hXY] at *
  clear hXY
  have OY : Hid (V.Few n lY 16) := Lib.hid (by rw [EY.out]; exact few_up (OA.out.op OB.out V.andF (by omega)) (by omega))
  have HOP3 := Lib.hid (V.opP_few V.minusF OA.out OB.out (by omega))
  refine (rgMinus_any n n (.slice pA lA.length qA) (.slice pB lB.length qB) lA lB W3 HM.out ZA.out.set ZB.out.set (lens_ok OA.out.ok) (lens_ok OB.out.ok) (few_len OA.out) (few_len OB.out)).mono ?_
  rintro e w4 ⟨u4, rfl, hu4, _, hb4⟩
  rw [HOP3.out] at hu4 ⊢
  simp only at hu4 ⊢
  obtain ⟨lZ, hlZ⟩ : ∃ l, l = V.opL n V.minusF lA lB := ⟨_, rfl⟩
  rw [← hlZ] at hu4
  have EZ := Lib.hid hlZ
  clear hlZ
  obtain ⟨pZ, qZ, rfl⟩ := hu4.slice
  unfold setV
  clear cA0 cA1 cB0 cB1
  have hbA4 : Below w4.heap.size w4 (w4.alloc (.cells #[.int .i64 n, .slice pZ lZ.length qZ] 25)) := (Below.refl _ _).alloc (Nat.le_refl _) _
  have hbT4 := hb4.trans (hbA4.mono hb4.size)
  replace ZA := Lib.hid (ZA.out.later hbT4)
  replace ZB := Lib.hid (ZB.out.later hbT4)
  replace ZX := Lib.hid (ZX.out.later hbT4)
  replace ZY := Lib.hid (ZY.out.later hbT4)
  replace HB := Lib.hid (HB.out.trans (hbT4.mono HB.out.size))
  replace HM := Lib.hid (HM.out.below hbT4)
  have ZZ : Hid (BoxAt (w4.alloc (.cells #[.int .i64 n, .slice pZ lZ.length qZ] 25)) w4.heap.size n pZ qZ lZ) := Lib.hid ⟨by rw [heap_alloc, if_pos rfl], hu4.below hbA4⟩
  clear hu4 hb4 hbA4 hbT4
  obtain ⟨cA0, cA1⟩ := ZA.out.cells
  go_wp2_with fail
  generalize w4.alloc (.cells #[.int .i64 n, .slice pZ lZ.length qZ] 25) = W4 at *
  obtain ⟨XZ, hXZ⟩ : ∃ X, X = w4.heap.size := ⟨_, rfl⟩
  simp only [← hXZ] at *
  clear hXZ
  have OZ : Hid (V.Few n lZ 16) := Lib.hid (by rw [EZ.out]; exact few_up (OA.out.op OB.out V.minusF (by omega)) (by omega))
  have HOP4 := Lib.hid (V.compP_few OA.out (by omega))
  refine (rgComplement_any n (.slice pA lA.length qA) lA W4 HM.out ZA.out.set (lens_ok OA.out.ok) (few_len OA.out)).mono ?_
  rintro e w5 ⟨u5, rfl, hu5, _, hb5⟩
  rw [HOP4.out] at hu5 ⊢
  simp only at hu5 ⊢
  obtain ⟨lC, hlC⟩ : ∃ l, l = V.opL n V.notF lA [] := ⟨_, rfl⟩
  rw [← hlC] at hu5
  have EC := Lib.hid hlC
  clear hlC
  obtain ⟨pC, qC, rfl⟩ := hu5.slice
  unfold setV
  clear cA0 cA1
  have hbA5 : Below w5.heap.size w5 (w5.alloc (.cells #[.int .i64 n, .slice pC lC.length qC] 25)) := (Below.refl _ _).alloc (Nat.le_refl _) _
  have hbT5 := hb5.trans (hbA5.mono hb5.size)
  replace ZA := Lib.hid (ZA.out.later hbT5)
  replace ZB := Lib.hid (ZB.out.later hbT5)
  replace ZX := Lib.hid (ZX.out.later hbT5)
  replace ZY := Lib.hid (ZY.out.later hbT5)
  replace ZZ := Lib.hid (ZZ.out.later hbT5)
  replace HB := Lib.hid (HB.out.trans (hbT5.mono HB.out.size))
  replace HM := Lib.hid (HM.out.below hbT5)
  have ZC : Hid (BoxAt (w5.alloc (.cells #[.int .i64 n, .slice pC lC.length qC] 25)) w5.heap.size n pC qC lC) := Lib.hid ⟨by rw [heap_alloc, if_pos rfl], hu5.below hbA5⟩
  clear hu5 hb5 hbA5 hbT5
  go_wp2_with fail
  generalize w5.alloc (.cells #[.int .i64 n, .slice pC lC.length qC] 25) = W5 at *
  obtain ⟨XC, hXC⟩ : ∃ X, X = w5.heap.size := ⟨_, rfl⟩
  simp only [← hXC] at *
  clear hXC
  have OC : Hid (V.Few n lC 8) := Lib.hid (by rw [EC.out]; exact few_up (OA.out.op ONIL.out V.notF (by omega)) (by omega))
  have HX : Hid (V.containsL n lX v = (P || Q)) := Lib.hid (by rw [EX.out]; exact HLAW.out.1)
  have HY : Hid (V.containsL n lY v = (P && Q)) := Lib.hid (by rw [EY.out]; exact HLAW.out.2.1)
  have HZ : Hid (V.containsL n lZ v = (P && !Q)) := Lib.hid (by rw [EZ.out]; exact HLAW.out.2.2.1)
  have HC : Hid (V.containsL n lC v = !P) := Lib.hid (by rw [EC.out]; exact HLAW.out.2.2.2)
  refine (awake07_any W5 HM.out).mono ?_
  rintro e w6 ⟨rfl, hb6⟩
  replace ZA := Lib.hid (ZA.out.later hb6)
  replace ZB := Lib.hid (ZB.out.later hb6)
  replace ZX := Lib.hid (ZX.out.later hb6)
  replace ZY := Lib.hid (ZY.out.later hb6)
  replace ZZ := Lib.hid (ZZ.out.later hb6)
  replace ZC := Lib.hid (ZC.out.later hb6)
  replace HB := Lib.hid (HB.out.trans (hb6.mono HB.out.size))
  replace HM := Lib.hid (HM.out.below hb6)
  clear hb6
  obtain ⟨cX0, cX1⟩ := ZX.out.cells
  go_wp2_with fail
  cases P <;> cases Q
  all_goals
    simp only [Bool.or_false, Bool.or_true, Bool.and_false, Bool.and_true, Bool.not_true, Bool.not_false] at HX HY HZ HC
    refine (rgContains_any n (.slice pX lX.length qX) lX v w6 HM.out ZX.out.set (lens_ok OX.out.ok) (few_len OX.out) HVL.out).mono ?_
    rintro e w7 ⟨rfl, hb7⟩
    rw [HX.out]
    clear cX0 cX1
    replace ZA := Lib.hid (ZA.out.later hb7)
    replace ZB := Lib.hid (ZB.out.later hb7)
    replace ZX := Lib.hid (ZX.out.later hb7)
    replace ZY := Lib.hid (ZY.out.later hb7)
    replace ZZ := Lib.hid (ZZ.out.later hb7)
    replace ZC := Lib.hid (ZC.out.later hb7)
    replace HB := Lib.hid (HB.out.trans (hb7.mono HB.out.size))
    replace HM := Lib.hid (HM.out.below hb7)
    clear hb7
    obtain ⟨cY0, cY1⟩ := ZY.out.cells
    go_wp2_with fail
    refine (rgContains_any n (.slice pY lY.length qY) lY v w7 HM.out ZY.out.set (lens_ok OY.out.ok) (few_len OY.out) HVL.out).mono ?_
    rintro e w8 ⟨rfl, hb8⟩
    rw [HY.out]
    clear cY0 cY1
    replace ZA := Lib.hid (ZA.out.later hb8)
    replace ZB := Lib.hid (ZB.out.later hb8)
    replace ZX := Lib.hid (ZX.out.later hb8)
    replace ZY := Lib.hid (ZY.out.later hb8)
    replace ZZ := Lib.hid (ZZ.out.later hb8)
    replace ZC := Lib.hid (ZC.out.later hb8)
    replace HB := Lib.hid (HB.out.trans (hb8.mono HB.out.size))
    replace HM := Lib.hid (HM.out.below hb8)
    clear hb8
    obtain ⟨cZ0, cZ1⟩ := ZZ.out.cells
    go_wp2_with fail
    refine (rgContains_any n (.slice pZ lZ.length qZ) lZ v w8 HM.out ZZ.out.set (lens_ok OZ.out.ok) (few_len OZ.out) HVL.out).mono ?_
    rintro e w9 ⟨rfl, hb9⟩
    rw [HZ.out]
    clear cZ0 cZ1
    replace ZA := Lib.hid (ZA.out.later hb9)
    replace ZB := Lib.hid (ZB.out.later hb9)
    replace ZX := Lib.hid (ZX.out.later hb9)
    replace ZY := Lib.hid (ZY.out.later hb9)
    replace ZZ := Lib.hid (ZZ.out.later hb9)
    replace ZC := Lib.hid (ZC.out.later hb9)
    replace HB := Lib.hid (HB.out.trans (hb9.mono HB.out.size))
    replace HM := Lib.hid (HM.out.below hb9)
    clear hb9
    obtain ⟨cC0, cC1⟩ := ZC.out.cells
    go_wp2_with fail
    refine (rgContains_any n (.slice pC lC.length qC) lC v w9 HM.out ZC.out.set (lens_ok OC.out.ok) (few_len OC.out) HVL.out).mono ?_
    rintro e w10 ⟨rfl, hb10⟩
    rw [HC.out]
    clear cC0 cC1
    replace ZA := Lib.hid (ZA.out.later hb10)
    replace ZB := Lib.hid (ZB.out.later hb10)
    replace ZX := Lib.hid (ZX.out.later hb10)
    replace ZY := Lib.hid (ZY.out.later hb10)
    replace ZZ := Lib.hid (ZZ.out.later hb10)
    replace ZC := Lib.hid (ZC.out.later hb10)
    replace HB := Lib.hid (HB.out.trans (hb10.mono HB.out.size))
    replace HM := Lib.hid (HM.out.below hb10)
    clear hb10
    go_wp2
    go_ret
    exact ⟨rfl, HB.out⟩
end Go.Proofs.YtolojkkhmamddaaGreatDoor

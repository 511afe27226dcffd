/-
  Walk: the law RangesValid. (Printed by gen_NM6.py.)
-/
import Derived.Test.YtolojkkhmamddaaGreatDoorNM0
import Derived.Test.YtolojkkhmamddaaGreatDoorMU
import Derived.Deep.RegionHeld3
namespace Go.Proofs.YtolojkkhmamddaaGreatDoor
open Go.RowKit

theorem allP_len (n : Int) : (allP n).2.1.length ≤ maxLen := by
  unfold allP maxLen
  split <;> simp
theorem noneP_len (n : Int) : (noneP n).2.1.length ≤ maxLen := by
  unfold noneP maxLen
  split <;> simp

set_option maxRecDepth 100000 in
set_option maxHeartbeats 12800000 in
theorem rangesValid_any (n0 : Int) (u0 : Value) (lR : List V.Itv) (s : ByteArray) (a : Option Addr) (m cap : Nat) (w : World) (hm : MaxOk w) (hu : Itvs w u0 lR) (hw : ∀ c ∈ lR, ItvWf c) (hl : lR.length ≤ maxLen) (hs : s.size ≤ maxLen) (ht : Nums w a m) :
    Calls Tryz.prog 5 #[setV n0 u0, .string s, .slice a m cap] w fun e w' => e = .returned (.bool true) ∧ Below w.heap.size w w' := by
  obtain ⟨pR, qR, rfl⟩ := hu.slice
  have HLR := Lib.hid (lens_wf hw)
  have HNR := Lib.hid hl
  have HSS := Lib.hid hs
  have ZR := Lib.hid (box_new w n0 pR qR lR hu)
  have hb0 := below_new w (.cells #[.int .i64 n0, .slice pR lR.length qR] 25)
  have HB := Lib.hid hb0
  have HM := Lib.hid (hm.below hb0)
  have HT := Lib.hid (ht.later hb0)
  unfold maxLen at hs
  clear hm hu hw hl ht hb0
  obtain ⟨cR0, cR1⟩ := ZR.out.cells
  unfold setV
  go_enter Tryz.func5, Tryz.ntmps5
  go_wp2_with fail
  generalize w.alloc (.cells #[.int .i64 n0, .slice pR lR.length qR] 25) = W0 at *
  obtain ⟨XR, hXR⟩ : ∃ X, X = w.heap.size := ⟨_, rfl⟩
  rw [← hXR] at ZR cR0 cR1 ⊢
  clear hXR
  refine (light07_any n0 (.slice pR lR.length qR) lR W0 ZR.out.set HLR.out HNR.out).mono ?_
  rintro e w1 ⟨b, rfl, hb1⟩
  replace ZR := Lib.hid (ZR.out.later hb1)
  replace HB := Lib.hid (HB.out.trans (hb1.mono HB.out.size))
  replace HM := Lib.hid (HM.out.below hb1)
  replace HT := Lib.hid (HT.out.later hb1)
  clear hb1 cR0 cR1
  rcases b with _ | _
  · go_wp2
    go_ret
    exact ⟨rfl, HB.out⟩
  · by_cases hlong : 300 < s.size
    · go_wp2
      go_ret
      exact ⟨rfl, HB.out⟩
    · go_wp2_with fail
      refine (made07_any a m cap w1 HM.out HT.out).mono ?_
      rintro e w2 ⟨n, lA, lB, v, pA, qA, pB, qB, hn, hfa, hfb, hv, rfl, ha, hb, hb2⟩
      have OA := Lib.hid hfa
      have hvl : (ByteArray.mk v.toArray).size ≤ 64 := by have := (V.valid_len hv).2; simpa [ByteArray.size] using this
      have HVL : Hid (v.length ≤ maxLen) := Lib.hid (by have := (V.valid_len hv).2; unfold maxLen; omega)
      obtain ⟨h2, ZA, ZB⟩ := two_boxes w2 n pA pB qA qB lA lB ha hb
      have hbT := hb2.trans (h2.mono hb2.size)
      replace ZR := Lib.hid (ZR.out.later hbT)
      replace HB := Lib.hid (HB.out.trans (hbT.mono HB.out.size))
      replace HM := Lib.hid (HM.out.below hbT)
      replace ZA := Lib.hid ZA
      obtain ⟨cR0, cR1⟩ := ZR.out.cells
      clear hn hfa hfb hv ha hb hb2 h2 ZB hbT HT hlong
      unfold setV
      go_wp2_with fail
      generalize (w2.alloc (.cells #[.int .i64 n, .slice pA lA.length qA] 25)).alloc (.cells #[.int .i64 n, .slice pB lB.length qB] 25) = W2 at *
      obtain ⟨XA, hXA⟩ : ∃ X, X = w2.heap.size := ⟨_, rfl⟩
      simp only [← hXA] at *
      clear hXA
      obtain ⟨P1, hP1⟩ : ∃ P, P = allP n0 := ⟨_, rfl⟩
      obtain ⟨P2, hP2⟩ : ∃ P, P = noneP n0 := ⟨_, rfl⟩
      have HP1 := Lib.hid hP1
      have HP2 := Lib.hid hP2
      have HPL1 : Hid (P1.2.1.length ≤ maxLen) := Lib.hid (by rw [hP1]; exact allP_len n0)
      have HPL2 : Hid (P2.2.1.length ≤ maxLen) := Lib.hid (by rw [hP2]; exact noneP_len n0)
      clear hP1 hP2
      obtain ⟨n1, l1, e1⟩ := P1
      obtain ⟨n2, l2, e2⟩ := P2
      simp only at HPL1 HPL2
      have he1 : (e1 != e1) = false := by simp
      have he2 : (e2 != e2) = false := by simp
      refine (rgAll_any n0 W2).mono ?_
      rintro e w11 ⟨u11, rfl, hu11, _, hb11⟩
      rw [← HP1.out] at hu11 ⊢
      simp only at hu11 ⊢
      obtain ⟨pX, qX, rfl⟩ := hu11.slice
      unfold setV
      clear cR0 cR1
      have ZX := Lib.hid (box_new w11 n1 pX qX l1 hu11)
      have hbT11 := hb11.trans ((below_new w11 (.cells #[.int .i64 n1, .slice pX l1.length qX] 25)).mono hb11.size)
      replace ZR := Lib.hid (ZR.out.later hbT11)
      replace ZA := Lib.hid (ZA.out.later hbT11)
      replace HB := Lib.hid (HB.out.trans (hbT11.mono HB.out.size))
      replace HM := Lib.hid (HM.out.below hbT11)
      clear hu11 hb11 hbT11
      obtain ⟨cR0, cR1⟩ := ZR.out.cells
      go_wp2_with fail
      generalize w11.alloc (.cells #[.int .i64 n1, .slice pX l1.length qX] 25) = W11x at *
      obtain ⟨XX, hXX⟩ : ∃ X, X = w11.heap.size := ⟨_, rfl⟩
      simp only [← hXX] at *
      clear hXX
      refine (rrAll_any n0 W11x).mono ?_
      rintro e w12 ⟨u12, rfl, hu12, _, hb12⟩
      rw [← HP1.out] at hu12 ⊢
      simp only at hu12 ⊢
      obtain ⟨pY, qY, rfl⟩ := hu12.slice
      unfold setV
      clear cR0 cR1
      have ZY := Lib.hid (box_new w12 n1 pY qY l1 hu12)
      have hbT12 := hb12.trans ((below_new w12 (.cells #[.int .i64 n1, .slice pY l1.length qY] 25)).mono hb12.size)
      replace ZR := Lib.hid (ZR.out.later hbT12)
      replace ZA := Lib.hid (ZA.out.later hbT12)
      replace ZX := Lib.hid (ZX.out.later hbT12)
      replace HB := Lib.hid (HB.out.trans (hbT12.mono HB.out.size))
      replace HM := Lib.hid (HM.out.below hbT12)
      clear hu12 hb12 hbT12
      obtain ⟨cR0, cR1⟩ := ZR.out.cells
      go_wp2_with fail
      generalize w12.alloc (.cells #[.int .i64 n1, .slice pY l1.length qY] 25) = W12x at *
      obtain ⟨XY, hXY⟩ : ∃ X, X = w12.heap.size := ⟨_, rfl⟩
      simp only [← hXY] at *
      clear hXY
      refine (rgNone_any n0 W12x).mono ?_
      rintro e w13 ⟨u13, rfl, hu13, _, hb13⟩
      rw [← HP2.out] at hu13 ⊢
      simp only at hu13 ⊢
      obtain ⟨pU, qU, rfl⟩ := hu13.slice
      unfold setV
      clear cR0 cR1
      have ZU := Lib.hid (box_new w13 n2 pU qU l2 hu13)
      have hbT13 := hb13.trans ((below_new w13 (.cells #[.int .i64 n2, .slice pU l2.length qU] 25)).mono hb13.size)
      replace ZR := Lib.hid (ZR.out.later hbT13)
      replace ZA := Lib.hid (ZA.out.later hbT13)
      replace ZX := Lib.hid (ZX.out.later hbT13)
      replace ZY := Lib.hid (ZY.out.later hbT13)
      replace HB := Lib.hid (HB.out.trans (hbT13.mono HB.out.size))
      replace HM := Lib.hid (HM.out.below hbT13)
      clear hu13 hb13 hbT13
      obtain ⟨cR0, cR1⟩ := ZR.out.cells
      go_wp2_with fail
      generalize w13.alloc (.cells #[.int .i64 n2, .slice pU l2.length qU] 25) = W13x at *
      obtain ⟨XU, hXU⟩ : ∃ X, X = w13.heap.size := ⟨_, rfl⟩
      simp only [← hXU] at *
      clear hXU
      refine (rrNone_any n0 W13x).mono ?_
      rintro e w14 ⟨u14, rfl, hu14, _, hb14⟩
      rw [← HP2.out] at hu14 ⊢
      simp only at hu14 ⊢
      obtain ⟨pV, qV, rfl⟩ := hu14.slice
      unfold setV
      clear cR0 cR1
      have ZV := Lib.hid (box_new w14 n2 pV qV l2 hu14)
      have hbT14 := hb14.trans ((below_new w14 (.cells #[.int .i64 n2, .slice pV l2.length qV] 25)).mono hb14.size)
      replace ZR := Lib.hid (ZR.out.later hbT14)
      replace ZA := Lib.hid (ZA.out.later hbT14)
      replace ZX := Lib.hid (ZX.out.later hbT14)
      replace ZY := Lib.hid (ZY.out.later hbT14)
      replace ZU := Lib.hid (ZU.out.later hbT14)
      replace HB := Lib.hid (HB.out.trans (hbT14.mono HB.out.size))
      replace HM := Lib.hid (HM.out.below hbT14)
      clear hu14 hb14 hbT14
      obtain ⟨cX0, cX1⟩ := ZX.out.cells
      obtain ⟨cY0, cY1⟩ := ZY.out.cells
      go_wp2_with fail
      generalize w14.alloc (.cells #[.int .i64 n2, .slice pV l2.length qV] 25) = W14x at *
      obtain ⟨XV, hXV⟩ : ∃ X, X = w14.heap.size := ⟨_, rfl⟩
      simp only [← hXV] at *
      clear hXV
      refine (rrSame_any n1 n1 (.slice pX l1.length qX) (.slice pY l1.length qY) l1 l1 W14x ZX.out.set ZY.out.set HPL1.out HPL1.out).mono ?_
      rintro e w15 ⟨rfl, hb15⟩
      rw [sameP_self]
      clear cX0 cX1 cY0 cY1
      replace ZR := Lib.hid (ZR.out.later hb15)
      replace ZA := Lib.hid (ZA.out.later hb15)
      replace ZX := Lib.hid (ZX.out.later hb15)
      replace ZY := Lib.hid (ZY.out.later hb15)
      replace ZU := Lib.hid (ZU.out.later hb15)
      replace ZV := Lib.hid (ZV.out.later hb15)
      replace HB := Lib.hid (HB.out.trans (hb15.mono HB.out.size))
      replace HM := Lib.hid (HM.out.below hb15)
      clear hb15
      obtain ⟨cU0, cU1⟩ := ZU.out.cells
      obtain ⟨cV0, cV1⟩ := ZV.out.cells
      go_wp2_with fail
      refine (rrSame_any n2 n2 (.slice pU l2.length qU) (.slice pV l2.length qV) l2 l2 w15 ZU.out.set ZV.out.set HPL2.out HPL2.out).mono ?_
      rintro e w16 ⟨rfl, hb16⟩
      rw [sameP_self]
      clear cU0 cU1 cV0 cV1
      replace ZR := Lib.hid (ZR.out.later hb16)
      replace ZA := Lib.hid (ZA.out.later hb16)
      replace ZX := Lib.hid (ZX.out.later hb16)
      replace ZY := Lib.hid (ZY.out.later hb16)
      replace ZU := Lib.hid (ZU.out.later hb16)
      replace ZV := Lib.hid (ZV.out.later hb16)
      replace HB := Lib.hid (HB.out.trans (hb16.mono HB.out.size))
      replace HM := Lib.hid (HM.out.below hb16)
      clear hb16
      obtain ⟨cR0, cR1⟩ := ZR.out.cells
      obtain ⟨cA0, cA1⟩ := ZA.out.cells
      go_wp2_with fail
      obtain ⟨sd, rfl⟩ : ∃ sd : V.Bs, s = ⟨sd.toArray⟩ := ⟨s.data.toList, rfl⟩
      have HSD : Hid (sd.length ≤ maxLen) := Lib.hid (by have := HSS.out; simpa [ByteArray.size] using this)
      obtain ⟨b1, hb1⟩ : ∃ b, b = V.okR n0 lR := ⟨_, rfl⟩
      obtain ⟨b2, hb2⟩ : ∃ b, b = V.containsL n0 lR sd := ⟨_, rfl⟩
      obtain ⟨b3, hb3⟩ : ∃ b, b = V.containsL n lA v := ⟨_, rfl⟩
      have HQ1 := Lib.hid hb1
      have HQ2 := Lib.hid hb2
      have HQ3 := Lib.hid hb3
      have HQA := Lib.hid (V.of_ok OA.out.ok)
      clear hb1 hb2 hb3
      refine wp_region_held_drew (S := (fun W' => Below w16.heap.size w16 W' ∧ W'.cell? ⟨XR, 0, none⟩ = some (.int .i64 n0) ∧ W'.cell? ⟨XR, 1, none⟩ = some (.slice pR lR.length qR) ∧ W'.cell? ⟨XA, 0, none⟩ = some (.int .i64 n) ∧ W'.cell? ⟨XA, 1, none⟩ = some (.slice pA lA.length qA))) (by kernel_rfl) (by (try dsimp only); (try simp only [World.cell?_drew]); exact ⟨(Below.refl _ _).drew, cR0, cR1, cA0, cA1⟩) (fun hHeld => ?_)
      refine wpAnyH_ready (rs := [0]) (by kernel_rfl) (by simp) ?_
      refine AllReadyH.cons (o := _) rfl (fun K hK => ?_) AllReadyH.nil
      go_simp
      refine (awake07_any _ (HM.out.below (show Below w16.heap.size w16 _ from (by first | assumption | exact And.left (by assumption))))).mono ?_
      rintro e wc17x0 ⟨rfl, hbc17x0⟩
      try dsimp only
      refine hK.out _ _ ?_ (fun hHeld => ?_)
      · (try dsimp only); go_split_ands; exact ⟨Below.trans (by assumption) (hbc17x0.mono (Below.size (by assumption))), below_keep hbc17x0 (by assumption), below_keep hbc17x0 (by assumption), below_keep hbc17x0 (by assumption), below_keep hbc17x0 (by assumption)⟩
      clear hK K
      try simp only [List.getElem_toArray, List.getElem_cons_succ, List.getElem_cons_zero, Act.put, List.setIfInBounds_toArray, List.set_cons_succ, List.set_cons_zero]
      refine wpAnyH_take (i := 1) (v := ?_) rfl (by kernel_rfl) (by kernel_rfl) (by kernel_rfl) (fun _ _ _ h => h) (Or.inl ⟨by rfl, ?_⟩) (by assumption) ?_
      rotate_left
      · (intro w' hSw; (try dsimp only at hSw); go_simp; try with_reducible rfl)
      try simp only [List.getElem_toArray, List.getElem_cons_succ, List.getElem_cons_zero, Act.put, List.setIfInBounds_toArray, List.set_cons_succ, List.set_cons_zero]
      refine wpAnyH_take (i := 2) (v := ?_) rfl (by kernel_rfl) (by kernel_rfl) (by kernel_rfl) (fun _ _ _ h => h) (Or.inl ⟨by rfl, ?_⟩) (by assumption) ?_
      rotate_left
      · (intro w' hSw; (try dsimp only at hSw); go_simp; try with_reducible rfl)
      try simp only [List.getElem_toArray, List.getElem_cons_succ, List.getElem_cons_zero, Act.put, List.setIfInBounds_toArray, List.set_cons_succ, List.set_cons_zero]
      refine wpAnyH_take (i := 4) (v := ?_) rfl (by kernel_rfl) (by kernel_rfl) (by kernel_rfl) (fun _ _ _ h => h) (Or.inl ⟨by rfl, ?_⟩) (by assumption) ?_
      rotate_left
      · (intro w' hSw; (try dsimp only at hSw); go_simp; try with_reducible rfl)
      try simp only [List.getElem_toArray, List.getElem_cons_succ, List.getElem_cons_zero, Act.put, List.setIfInBounds_toArray, List.set_cons_succ, List.set_cons_zero]
      refine wpAnyH_ready (rs := [3]) (by kernel_rfl) (by simp) ?_
      refine AllReadyH.cons (o := _) rfl (fun K hK => ?_) AllReadyH.nil
      go_simp
      refine (rgValid_any n0 (.slice pR lR.length qR) lR _ (HM.out.below (show Below w16.heap.size w16 _ from (by first | assumption | exact And.left (by assumption)))) (ZR.out.set.below (show Below w16.heap.size w16 _ from (by first | assumption | exact And.left (by assumption)))) HLR.out HNR.out).mono ?_
      rintro e wc17x3 ⟨rfl, hbc17x3⟩
      try dsimp only
      rw [← HQ1.out]
      refine hK.out _ _ ?_ (fun hHeld => ?_)
      · (try dsimp only); go_split_ands; exact ⟨Below.trans (by assumption) (hbc17x3.mono (Below.size (by assumption))), below_keep hbc17x3 (by assumption), below_keep hbc17x3 (by assumption), below_keep hbc17x3 (by assumption), below_keep hbc17x3 (by assumption)⟩
      clear hK K
      try simp only [List.getElem_toArray, List.getElem_cons_succ, List.getElem_cons_zero, Act.put, List.setIfInBounds_toArray, List.set_cons_succ, List.set_cons_zero]
      refine wpAnyH_ready (rs := [5]) (by kernel_rfl) (by simp) ?_
      refine AllReadyH.cons (o := _) rfl (fun K hK => ?_) AllReadyH.nil
      go_simp
      refine (rrValid_any n0 (.slice pR lR.length qR) lR _ (HM.out.below (show Below w16.heap.size w16 _ from (by first | assumption | exact And.left (by assumption)))) (ZR.out.set.below (show Below w16.heap.size w16 _ from (by first | assumption | exact And.left (by assumption)))) HLR.out HNR.out).mono ?_
      rintro e wc17x5 ⟨rfl, hbc17x5⟩
      try dsimp only
      rw [← HQ1.out]
      refine hK.out _ _ ?_ (fun hHeld => ?_)
      · (try dsimp only); go_split_ands; exact ⟨Below.trans (by assumption) (hbc17x5.mono (Below.size (by assumption))), below_keep hbc17x5 (by assumption), below_keep hbc17x5 (by assumption), below_keep hbc17x5 (by assumption), below_keep hbc17x5 (by assumption)⟩
      clear hK K
      try simp only [List.getElem_toArray, List.getElem_cons_succ, List.getElem_cons_zero, Act.put, List.setIfInBounds_toArray, List.set_cons_succ, List.set_cons_zero]
      refine wpAnyH_take (i := 6) (v := ?_) rfl (by kernel_rfl) (by kernel_rfl) (by kernel_rfl) (fun _ _ _ h => h) (Or.inl ⟨by rfl, ?_⟩) (by assumption) ?_
      rotate_left
      · (intro w' hSw; (try dsimp only at hSw); go_simp; try with_reducible rfl)
      try simp only [List.getElem_toArray, List.getElem_cons_succ, List.getElem_cons_zero, Act.put, List.setIfInBounds_toArray, List.set_cons_succ, List.set_cons_zero]
      refine wpAnyH_take (i := 7) (v := ?_) rfl (by kernel_rfl) (by kernel_rfl) (by kernel_rfl) (fun _ _ _ h => h) (Or.inl ⟨by rfl, ?_⟩) (by assumption) ?_
      rotate_left
      · (intro w' hSw; (try dsimp only at hSw); go_simp; try with_reducible rfl)
      try simp only [List.getElem_toArray, List.getElem_cons_succ, List.getElem_cons_zero, Act.put, List.setIfInBounds_toArray, List.set_cons_succ, List.set_cons_zero]
      refine wpAnyH_take (i := 8) (v := ?_) rfl (by kernel_rfl) (by kernel_rfl) (by kernel_rfl) (fun _ _ _ h => h) (Or.inl ⟨by rfl, ?_⟩) (by assumption) ?_
      rotate_left
      · (intro w' hSw; (try dsimp only at hSw); go_simp; try with_reducible rfl)
      try simp only [List.getElem_toArray, List.getElem_cons_succ, List.getElem_cons_zero, Act.put, List.setIfInBounds_toArray, List.set_cons_succ, List.set_cons_zero]
      refine wpAnyH_take (i := 9) (v := ?_) rfl (by kernel_rfl) (by kernel_rfl) (by kernel_rfl) (fun _ _ _ h => h) (Or.inl ⟨by rfl, ?_⟩) (by assumption) ?_
      rotate_left
      · (intro w' hSw; (try dsimp only at hSw); go_simp; try with_reducible rfl)
      try simp only [List.getElem_toArray, List.getElem_cons_succ, List.getElem_cons_zero, Act.put, List.setIfInBounds_toArray, List.set_cons_succ, List.set_cons_zero]
      refine wpAnyH_take (i := 10) (v := ?_) rfl (by kernel_rfl) (by kernel_rfl) (by kernel_rfl) (fun _ _ _ h => h) (Or.inl ⟨by rfl, ?_⟩) (by assumption) ?_
      rotate_left
      · (intro w' hSw; (try dsimp only at hSw); go_simp; try with_reducible rfl)
      try simp only [List.getElem_toArray, List.getElem_cons_succ, List.getElem_cons_zero, Act.put, List.setIfInBounds_toArray, List.set_cons_succ, List.set_cons_zero]
      refine wpAnyH_take (i := 12) (v := ?_) rfl (by kernel_rfl) (by kernel_rfl) (by kernel_rfl) (fun _ _ _ h => h) (Or.inl ⟨by rfl, ?_⟩) (by assumption) ?_
      rotate_left
      · (intro w' hSw; (try dsimp only at hSw); go_simp; try with_reducible rfl)
      try simp only [List.getElem_toArray, List.getElem_cons_succ, List.getElem_cons_zero, Act.put, List.setIfInBounds_toArray, List.set_cons_succ, List.set_cons_zero]
      refine wpAnyH_take (i := 13) (v := ?_) rfl (by kernel_rfl) (by kernel_rfl) (by kernel_rfl) (fun _ _ _ h => h) (Or.inl ⟨by rfl, ?_⟩) (by assumption) ?_
      rotate_left
      · (intro w' hSw; (try dsimp only at hSw); go_simp; try with_reducible rfl)
      try simp only [List.getElem_toArray, List.getElem_cons_succ, List.getElem_cons_zero, Act.put, List.setIfInBounds_toArray, List.set_cons_succ, List.set_cons_zero]
      refine wpAnyH_ready (rs := [11]) (by kernel_rfl) (by simp) ?_
      refine AllReadyH.cons (o := _) rfl (fun K hK => ?_) AllReadyH.nil
      go_simp
      refine (rgContains_any n0 (.slice pR lR.length qR) lR sd _ (HM.out.below (show Below w16.heap.size w16 _ from (by first | assumption | exact And.left (by assumption)))) (ZR.out.set.below (show Below w16.heap.size w16 _ from (by first | assumption | exact And.left (by assumption)))) HLR.out HNR.out HSD.out).mono ?_
      rintro e wc17x11 ⟨rfl, hbc17x11⟩
      try dsimp only
      rw [← HQ2.out]
      refine hK.out _ _ ?_ (fun hHeld => ?_)
      · (try dsimp only); go_split_ands; exact ⟨Below.trans (by assumption) (hbc17x11.mono (Below.size (by assumption))), below_keep hbc17x11 (by assumption), below_keep hbc17x11 (by assumption), below_keep hbc17x11 (by assumption), below_keep hbc17x11 (by assumption)⟩
      clear hK K
      try simp only [List.getElem_toArray, List.getElem_cons_succ, List.getElem_cons_zero, Act.put, List.setIfInBounds_toArray, List.set_cons_succ, List.set_cons_zero]
      refine wpAnyH_ready (rs := [14]) (by kernel_rfl) (by simp) ?_
      refine AllReadyH.cons (o := _) rfl (fun K hK => ?_) AllReadyH.nil
      go_simp
      refine (rrContains_any n0 (.slice pR lR.length qR) lR sd _ (HM.out.below (show Below w16.heap.size w16 _ from (by first | assumption | exact And.left (by assumption)))) (ZR.out.set.below (show Below w16.heap.size w16 _ from (by first | assumption | exact And.left (by assumption)))) HLR.out HNR.out HSD.out).mono ?_
      rintro e wc17x14 ⟨rfl, hbc17x14⟩
      try dsimp only
      rw [← HQ2.out]
      refine hK.out _ _ ?_ (fun hHeld => ?_)
      · (try dsimp only); go_split_ands; exact ⟨Below.trans (by assumption) (hbc17x14.mono (Below.size (by assumption))), below_keep hbc17x14 (by assumption), below_keep hbc17x14 (by assumption), below_keep hbc17x14 (by assumption), below_keep hbc17x14 (by assumption)⟩
      clear hK K
      try simp only [List.getElem_toArray, List.getElem_cons_succ, List.getElem_cons_zero, Act.put, List.setIfInBounds_toArray, List.set_cons_succ, List.set_cons_zero]
      refine wpAnyH_take (i := 15) (v := ?_) rfl (by kernel_rfl) (by kernel_rfl) (by kernel_rfl) (fun _ _ _ h => h) (Or.inl ⟨by rfl, ?_⟩) (by assumption) ?_
      rotate_left
      · (intro w' hSw; (try dsimp only at hSw); go_simp; try with_reducible rfl)
      try simp only [List.getElem_toArray, List.getElem_cons_succ, List.getElem_cons_zero, Act.put, List.setIfInBounds_toArray, List.set_cons_succ, List.set_cons_zero]
      refine wpAnyH_take (i := 16) (v := ?_) rfl (by kernel_rfl) (by kernel_rfl) (by kernel_rfl) (fun _ _ _ h => h) (Or.inl ⟨by rfl, ?_⟩) (by assumption) ?_
      rotate_left
      · (intro w' hSw; (try dsimp only at hSw); go_simp; try with_reducible rfl)
      try simp only [List.getElem_toArray, List.getElem_cons_succ, List.getElem_cons_zero, Act.put, List.setIfInBounds_toArray, List.set_cons_succ, List.set_cons_zero]
      refine wpAnyH_take (i := 17) (v := ?_) rfl (by kernel_rfl) (by kernel_rfl) (by kernel_rfl) (fun _ _ _ h => h) (Or.inl ⟨by rfl, ?_⟩) (by assumption) ?_
      rotate_left
      · (intro w' hSw; (try dsimp only at hSw); go_simp; try with_reducible rfl)
      try simp only [List.getElem_toArray, List.getElem_cons_succ, List.getElem_cons_zero, Act.put, List.setIfInBounds_toArray, List.set_cons_succ, List.set_cons_zero]
      refine wpAnyH_take (i := 18) (v := ?_) rfl (by kernel_rfl) (by kernel_rfl) (by kernel_rfl) (fun _ _ _ h => h) (Or.inl ⟨by rfl, ?_⟩) (by assumption) ?_
      rotate_left
      · (intro w' hSw; (try dsimp only at hSw); go_simp; try with_reducible rfl)
      try simp only [List.getElem_toArray, List.getElem_cons_succ, List.getElem_cons_zero, Act.put, List.setIfInBounds_toArray, List.set_cons_succ, List.set_cons_zero]
      refine wpAnyH_ready (rs := [19]) (by kernel_rfl) (by simp) ?_
      refine AllReadyH.cons (o := _) rfl (fun K hK => ?_) AllReadyH.nil
      go_simp
      refine (rgValid_any n (.slice pA lA.length qA) lA _ (HM.out.below (show Below w16.heap.size w16 _ from (by first | assumption | exact And.left (by assumption)))) (ZA.out.set.below (show Below w16.heap.size w16 _ from (by first | assumption | exact And.left (by assumption)))) (lens_ok OA.out.ok) (few_len OA.out)).mono ?_
      rintro e wc17x19 ⟨rfl, hbc17x19⟩
      try dsimp only
      rw [HQA.out]
      refine hK.out _ _ ?_ (fun hHeld => ?_)
      · (try dsimp only); go_split_ands; exact ⟨Below.trans (by assumption) (hbc17x19.mono (Below.size (by assumption))), below_keep hbc17x19 (by assumption), below_keep hbc17x19 (by assumption), below_keep hbc17x19 (by assumption), below_keep hbc17x19 (by assumption)⟩
      clear hK K
      try simp only [List.getElem_toArray, List.getElem_cons_succ, List.getElem_cons_zero, Act.put, List.setIfInBounds_toArray, List.set_cons_succ, List.set_cons_zero]
      refine wpAnyH_take (i := 20) (v := ?_) rfl (by kernel_rfl) (by kernel_rfl) (by kernel_rfl) (fun _ _ _ h => h) (Or.inl ⟨by rfl, ?_⟩) (by assumption) ?_
      rotate_left
      · (intro w' hSw; (try dsimp only at hSw); go_simp; try with_reducible rfl)
      try simp only [List.getElem_toArray, List.getElem_cons_succ, List.getElem_cons_zero, Act.put, List.setIfInBounds_toArray, List.set_cons_succ, List.set_cons_zero]
      refine wpAnyH_take (i := 21) (v := ?_) rfl (by kernel_rfl) (by kernel_rfl) (by kernel_rfl) (fun _ _ _ h => h) (Or.inl ⟨by rfl, ?_⟩) (by assumption) ?_
      rotate_left
      · (intro w' hSw; (try dsimp only at hSw); go_simp; try with_reducible rfl)
      try simp only [List.getElem_toArray, List.getElem_cons_succ, List.getElem_cons_zero, Act.put, List.setIfInBounds_toArray, List.set_cons_succ, List.set_cons_zero]
      refine wpAnyH_take (i := 22) (v := ?_) rfl (by kernel_rfl) (by kernel_rfl) (by kernel_rfl) (fun _ _ _ h => h) (Or.inl ⟨by rfl, ?_⟩) (by assumption) ?_
      rotate_left
      · (intro w' hSw; (try dsimp only at hSw); go_simp; try with_reducible rfl)
      try simp only [List.getElem_toArray, List.getElem_cons_succ, List.getElem_cons_zero, Act.put, List.setIfInBounds_toArray, List.set_cons_succ, List.set_cons_zero]
      refine wpAnyH_take (i := 23) (v := ?_) rfl (by kernel_rfl) (by kernel_rfl) (by kernel_rfl) (fun _ _ _ h => h) (Or.inl ⟨by rfl, ?_⟩) (by assumption) ?_
      rotate_left
      · (intro w' hSw; (try dsimp only at hSw); go_simp; try with_reducible rfl)
      try simp only [List.getElem_toArray, List.getElem_cons_succ, List.getElem_cons_zero, Act.put, List.setIfInBounds_toArray, List.set_cons_succ, List.set_cons_zero]
      refine wpAnyH_take (i := 25) (v := ?_) rfl (by kernel_rfl) (by kernel_rfl) (by kernel_rfl) (fun _ _ _ h => h) (Or.inl ⟨by rfl, ?_⟩) (by assumption) ?_
      rotate_left
      · (intro w' hSw; (try dsimp only at hSw); go_simp; try with_reducible rfl)
      try simp only [List.getElem_toArray, List.getElem_cons_succ, List.getElem_cons_zero, Act.put, List.setIfInBounds_toArray, List.set_cons_succ, List.set_cons_zero]
      refine wpAnyH_take (i := 26) (v := ?_) rfl (by kernel_rfl) (by kernel_rfl) (by kernel_rfl) (fun _ _ _ h => h) (Or.inl ⟨by rfl, ?_⟩) (by assumption) ?_
      rotate_left
      · (intro w' hSw; (try dsimp only at hSw); go_simp; try with_reducible rfl)
      try simp only [List.getElem_toArray, List.getElem_cons_succ, List.getElem_cons_zero, Act.put, List.setIfInBounds_toArray, List.set_cons_succ, List.set_cons_zero]
      refine wpAnyH_ready (rs := [24]) (by kernel_rfl) (by simp) ?_
      refine AllReadyH.cons (o := _) rfl (fun K hK => ?_) AllReadyH.nil
      go_simp
      refine (rgContains_any n (.slice pA lA.length qA) lA v _ (HM.out.below (show Below w16.heap.size w16 _ from (by first | assumption | exact And.left (by assumption)))) (ZA.out.set.below (show Below w16.heap.size w16 _ from (by first | assumption | exact And.left (by assumption)))) (lens_ok OA.out.ok) (few_len OA.out) HVL.out).mono ?_
      rintro e wc17x24 ⟨rfl, hbc17x24⟩
      try dsimp only
      rw [← HQ3.out]
      refine hK.out _ _ ?_ (fun hHeld => ?_)
      · (try dsimp only); go_split_ands; exact ⟨Below.trans (by assumption) (hbc17x24.mono (Below.size (by assumption))), below_keep hbc17x24 (by assumption), below_keep hbc17x24 (by assumption), below_keep hbc17x24 (by assumption), below_keep hbc17x24 (by assumption)⟩
      clear hK K
      try simp only [List.getElem_toArray, List.getElem_cons_succ, List.getElem_cons_zero, Act.put, List.setIfInBounds_toArray, List.set_cons_succ, List.set_cons_zero]
      refine wpAnyH_ready (rs := [27]) (by kernel_rfl) (by simp) ?_
      refine AllReadyH.cons (o := _) rfl (fun K hK => ?_) AllReadyH.nil
      go_simp
      refine (rrContains_any n (.slice pA lA.length qA) lA v _ (HM.out.below (show Below w16.heap.size w16 _ from (by first | assumption | exact And.left (by assumption)))) (ZA.out.set.below (show Below w16.heap.size w16 _ from (by first | assumption | exact And.left (by assumption)))) (lens_ok OA.out.ok) (few_len OA.out) HVL.out).mono ?_
      rintro e wc17x27 ⟨rfl, hbc17x27⟩
      try dsimp only
      rw [← HQ3.out]
      refine hK.out _ _ ?_ (fun hHeld => ?_)
      · (try dsimp only); go_split_ands; exact ⟨Below.trans (by assumption) (hbc17x27.mono (Below.size (by assumption))), below_keep hbc17x27 (by assumption), below_keep hbc17x27 (by assumption), below_keep hbc17x27 (by assumption), below_keep hbc17x27 (by assumption)⟩
      clear hK K
      try simp only [List.getElem_toArray, List.getElem_cons_succ, List.getElem_cons_zero, Act.put, List.setIfInBounds_toArray, List.set_cons_succ, List.set_cons_zero]
      refine wpAnyH_take (i := 28) (v := ?_) rfl (by kernel_rfl) (by kernel_rfl) (by kernel_rfl) (fun _ _ _ h => h) (Or.inl ⟨by rfl, ?_⟩) (by assumption) ?_
      rotate_left
      · (intro w' hSw; (try dsimp only at hSw); go_simp; try with_reducible rfl)
      try simp only [List.getElem_toArray, List.getElem_cons_succ, List.getElem_cons_zero, Act.put, List.setIfInBounds_toArray, List.set_cons_succ, List.set_cons_zero]
      refine wpAnyH_take (i := 29) (v := ?_) rfl (by kernel_rfl) (by kernel_rfl) (by kernel_rfl) (fun _ _ _ h => h) (Or.inl ⟨by rfl, ?_⟩) (by assumption) ?_
      rotate_left
      · (intro w' hSw; (try dsimp only at hSw); go_simp; try with_reducible rfl)
      try simp only [List.getElem_toArray, List.getElem_cons_succ, List.getElem_cons_zero, Act.put, List.setIfInBounds_toArray, List.set_cons_succ, List.set_cons_zero]
      refine wpAnyH_take (i := 30) (v := ?_) rfl (by kernel_rfl) (by kernel_rfl) (by kernel_rfl) (fun _ _ _ h => h) (Or.inl ⟨by rfl, ?_⟩) (by assumption) ?_
      rotate_left
      · (intro w' hSw; (try dsimp only at hSw); go_simp; try with_reducible rfl)
      try simp only [List.getElem_toArray, List.getElem_cons_succ, List.getElem_cons_zero, Act.put, List.setIfInBounds_toArray, List.set_cons_succ, List.set_cons_zero]
      refine wpAnyH_done (by kernel_rfl) ?_ _
      have hbS17 := (show Below w16.heap.size w16 wc17x27 from hHeld.1)
      clear cR0 cR1 cA0 cA1
      replace ZR := Lib.hid (ZR.out.later hbS17)
      replace ZA := Lib.hid (ZA.out.later hbS17)
      replace HB := Lib.hid (HB.out.trans (hbS17.mono HB.out.size))
      replace HM := Lib.hid (HM.out.below hbS17)
      clear hHeld hbS17 hbc17x0 hbc17x3 hbc17x5 hbc17x11 hbc17x14 hbc17x19 hbc17x24 hbc17x27
      go_wp2
      go_ret
      exact ⟨rfl, HB.out⟩
end Go.Proofs.YtolojkkhmamddaaGreatDoor

/-
  Walk: the law RangesBack.
-/
import Derived.Test.YtolojkkhmamddaaGreatDoorNL
import Derived.Test.YtolojkkhmamddaaGreatDoorMW
import Derived.Test.YtolojkkhmamddaaGreatDoorMY
import Derived.Test.YtolojkkhmamddaaGreatDoorMV
namespace Go.Proofs.YtolojkkhmamddaaGreatDoor
open Go.RowKit

theorem Nums.later {w w' : World} {a : Option Addr} {m : Nat} (h : Nums w a m) (hb : Below w.heap.size w w') : Nums w' a m := by
  refine ⟨h.1, fun j hj => ?_⟩
  obtain ⟨b', off, x, rfl, h1, h2, h3⟩ := h.2 j hj
  exact ⟨b', off, x, rfl, Nat.lt_of_lt_of_le h1 hb.size, below_keep hb h2, h3⟩
theorem lens_wf {l : List V.Itv} (h : ∀ c ∈ l, ItvWf c) : Lens l := fun x hx => ⟨(h x hx).1, (h x hx).2.1⟩
theorem box_new (w : World) (n : Int) (p : Option Addr) (q : Nat) (l : List V.Itv) (h : Itvs w (.slice p l.length q) l) : BoxAt (w.alloc (.cells #[.int .i64 n, .slice p l.length q] 25)) w.heap.size n p q l :=
  ⟨by rw [heap_alloc, if_pos rfl], h.below ((Below.refl _ _).alloc (Nat.le_refl _) _)⟩
theorem below_new (w : World) (o : Obj) : Below w.heap.size w (w.alloc o) := (Below.refl _ _).alloc (Nat.le_refl _) _

set_option maxRecDepth 100000 in
set_option maxHeartbeats 12800000 in
theorem rangesBack_any (n0 : Int) (u0 : Value) (l0 : List V.Itv) (a : Option Addr) (m cap : Nat) (w : World) (hm : MaxOk w) (hu : Itvs w u0 l0) (hw : ∀ c ∈ l0, ItvWf c) (hl : l0.length ≤ maxLen) (ht : Nums w a m) :
    Calls Tryz.prog 9 #[setV n0 u0, .slice a m cap] w fun e w' => e = .returned (.bool true) ∧ Below w.heap.size w w' := by
  obtain ⟨p0, q0, rfl⟩ := hu.slice
  have HL0 := Lib.hid (lens_wf hw)
  have HN0 := Lib.hid hl
  have ZR := Lib.hid (box_new w n0 p0 q0 l0 hu)
  have hb0 := below_new w (.cells #[.int .i64 n0, .slice p0 l0.length q0] 25)
  have HB := Lib.hid hb0
  have HM := Lib.hid (hm.below hb0)
  have HT := Lib.hid (ht.later hb0)
  clear hm hu hw hl ht hb0
  obtain ⟨c0, c1⟩ := ZR.out.cells
  unfold setV
  go_enter Tryz.func9, Tryz.ntmps9
  go_wp2_with fail
  generalize w.alloc (.cells #[.int .i64 n0, .slice p0 l0.length q0] 25) = W0 at *
  obtain ⟨X0, hX0⟩ : ∃ X, X = w.heap.size := ⟨_, rfl⟩
  have HX0 := Lib.hid hX0
  rw [← hX0] at ZR c0 c1 ⊢
  clear hX0
  refine (light07_any n0 (.slice p0 l0.length q0) l0 W0 ZR.out.set HL0.out HN0.out).mono ?_
  rintro e w1 ⟨b, rfl, hb1⟩
  replace ZR := Lib.hid (ZR.out.later hb1)
  replace HB := Lib.hid (HB.out.trans (hb1.mono HB.out.size))
  replace HM := Lib.hid (HM.out.below hb1)
  replace HT := Lib.hid (HT.out.later hb1)
  clear hb1 c0 c1
  rcases b with _ | _
  · go_wp2
    go_ret
    exact ⟨rfl, HB.out⟩
  · go_wp2_with fail
    refine (made07_any a m cap w1 HM.out HT.out).mono ?_
    rintro e w2 ⟨n, lA, lB, v, pA, qA, pB, qB, hn, hfa, hfb, hv, rfl, ha, hb, hb2⟩
    have OA := Lib.hid hfa
    have hvl : (ByteArray.mk v.toArray).size ≤ 64 := by have := (V.valid_len hv).2; simpa [ByteArray.size] using this
    obtain ⟨h2, ZA, ZB⟩ := two_boxes w2 n pA pB qA qB lA lB ha hb
    have hbT := hb2.trans (h2.mono hb2.size)
    replace ZR := Lib.hid (ZR.out.later hbT)
    replace HB := Lib.hid (HB.out.trans (hbT.mono HB.out.size))
    replace HM := Lib.hid (HM.out.below hbT)
    replace ZA := Lib.hid ZA
    obtain ⟨c0, c1⟩ := ZR.out.cells
    obtain ⟨d0, d1⟩ := ZA.out.cells
    have hz2 : ((w2.alloc (.cells #[.int .i64 n, .slice pA lA.length qA] 25)).alloc (.cells #[.int .i64 n, .slice pB lB.length qB] 25)).heap.size = w2.heap.size + 1 + 1 := by simp
    clear hn hfa hfb hv ha hb hb2 h2 ZB hbT HT
    unfold setV
    obtain ⟨W2, hW2⟩ : ∃ W2, W2 = (w2.alloc (.cells #[.int .i64 n, .slice pA lA.length qA] 25)).alloc (.cells #[.int .i64 n, .slice pB lB.length qB] 25) := ⟨_, rfl⟩
    rw [← hW2] at ZR HB HM ZA hz2
    have HW2 := Lib.hid hW2
    clear hW2
    have hb3 := below_new W2 (.cells #[.int .i64 n0, .slice p0 l0.length q0, .int .i64 n, .slice pA lA.length qA] 25)
    have HG : Hid ((∀ k, k < 2 → ∃ (nx : Int) (px : Option Addr) (qx : Nat) (lx : List V.Itv), Itvs (W2.alloc (.cells #[.int .i64 n0, .slice p0 l0.length q0, .int .i64 n, .slice pA lA.length qA] 25)) (.slice px lx.length qx) lx ∧ Lens lx ∧ lx.length ≤ maxLen ∧
        (W2.alloc (.cells #[.int .i64 n0, .slice p0 l0.length q0, .int .i64 n, .slice pA lA.length qA] 25)).cell? ⟨w2.heap.size + 1 + 1, k * 2, none⟩ = some (.int .i64 nx) ∧
        (W2.alloc (.cells #[.int .i64 n0, .slice p0 l0.length q0, .int .i64 n, .slice pA lA.length qA] 25)).cell? ⟨w2.heap.size + 1 + 1, k * 2 + 1, none⟩ = some (.slice px lx.length qx))) := Lib.hid (by
      intro k hk
      rw [← hz2]
      have h2 : k = 0 ∨ k = 1 := by omega
      rcases h2 with rfl | rfl
      · exact ⟨n0, p0, q0, l0, ZR.out.set.below hb3, HL0.out, HN0.out, by rw [World.cell?_alloc_new]; rfl, by rw [World.cell?_alloc_new]; rfl⟩
      · exact ⟨n, pA, qA, lA, ZA.out.set.below hb3, lens_ok OA.out.ok, few_len OA.out, by rw [World.cell?_alloc_new]; rfl, by rw [World.cell?_alloc_new]; rfl⟩)
    have HB3 := Lib.hid (HB.out.trans (hb3.mono HB.out.size))
    have HM3 := Lib.hid (HM.out.below hb3)
    clear hb3 hz2
    go_wp2_with fail
    rw [← HW2.out]
    clear c0 c1 d0 d1
    generalize W2.alloc (.cells #[.int .i64 n0, .slice p0 l0.length q0, .int .i64 n, .slice pA lA.length qA] 25) = W3 at *
    obtain ⟨G, hG⟩ : ∃ G, G = w2.heap.size + 1 + 1 := ⟨_, rfl⟩
    rw [← hG] at HG ⊢
    clear hG
    go_loopw [27] (fun iv wx => ∃ k : Nat, k ≤ 2 ∧ iv = .int .i64 k ∧ Below W3.heap.size W3 wx) (fun iv _ => 2 - (intOf iv).toNat)
    case atStart => exact ⟨0, by omega, rfl, Below.refl _ _⟩
    case round =>
      obtain ⟨k, hk, rfl, hbx⟩ := hrel
      have HBX := Lib.hid hbx
      have HBW := Lib.hid (HB3.out.trans (hbx.mono HB3.out.size))
      have HMR := Lib.hid (HM3.out.below hbx)
      by_cases hlt : k < 2
      · obtain ⟨nx, px, qx, lx, hit, hln, hll, d0, d1⟩ := HG.out k hlt
        have HLN := Lib.hid hln
        have HLL := Lib.hid hll
        have e0 := below_keep hbx d0
        have e1 := below_keep hbx d1
        have hi1 : (0 : Int) ≤ (k : Int) := by omega
        have hi2 : (k : Int) < 2 := by omega
        have ZX := Lib.hid (box_new wr nx px qx lx (hit.below hbx))
        have hb4 := below_new wr (.cells #[.int .i64 nx, .slice px lx.length qx] 25)
        have HB4 := Lib.hid (hbx.trans (hb4.mono hbx.size))
        have HM4 := Lib.hid (HMR.out.below hb4)
        obtain ⟨x0, x1⟩ := ZX.out.cells
        clear hbx hit hln hll d0 d1 hb4
        go_wp2_with fail
        clear e0 e1
        generalize wr.alloc (.cells #[.int .i64 nx, .slice px lx.length qx] 25) = w4 at *
        obtain ⟨XX, hXX⟩ : ∃ X, X = wr.heap.size := ⟨_, rfl⟩
        rw [← hXX] at ZX x0 x1 ⊢
        clear hXX
        refine (rgFormat_any nx (.slice px lx.length qx) lx w4 HM4.out ZX.out.set HLN.out HLL.out).mono ?_
        rintro e w5 ⟨rfl, hb5⟩
        have Z5 := Lib.hid (ZX.out.later hb5)
        have HB5 := Lib.hid (HB4.out.trans (hb5.mono HB4.out.size))
        have HM5 := Lib.hid (HM4.out.below hb5)
        clear hb5 x0 x1
        obtain ⟨x0, x1⟩ := Z5.out.cells
        rcases hok : V.okR nx lx with _ | _
        · have HR : Hid (V.formatR nx lx = ([], 1)) := Lib.hid (by unfold V.formatR; rw [hok]; rfl)
          have HOK := Lib.hid hok
          clear hok
          rw [HR.out]
          simp only
          go_wp2_with fail
          refine (rgValid_any nx (.slice px lx.length qx) lx w5 HM5.out Z5.out.set HLN.out HLL.out).mono ?_
          rintro e w6 ⟨rfl, hb6⟩
          rw [HOK.out]
          have HB6 := Lib.hid (HB5.out.trans (hb6.mono HB5.out.size))
          clear hb6 x0 x1
          go_wp2_with fail
          go_roundw
          case rel => exact ⟨k + 1, by omega, by go_num, HB6.out⟩
          case measure => simp [intOf]; omega
        · have HOK := Lib.hid (V.ok_of hok)
          have HR : Hid (V.formatR nx lx = (V.textL lx, 0)) := Lib.hid (by unfold V.formatR; rw [hok]; rfl)
          have HP := Lib.hid (V.parP_some (V.parse_back HOK.out))
          have HTL : Hid ((V.textL lx).length ≤ maxLen) := Lib.hid (by
            by_cases h0 : lx = []
            · rw [h0]; unfold maxLen; decide
            · have := txt_len HOK.out h0; unfold maxLen; omega)
          clear hok
          rw [HR.out]
          simp only
          go_wp2_with fail
          refine (rgParse_any nx (V.textL lx) w5 HM5.out HTL.out).mono ?_
          rintro e w6 ⟨u, rfl, hu, _, hb6⟩
          rw [HP.out] at hu ⊢
          simp only at hu ⊢
          obtain ⟨py, qy, rfl⟩ := hu.slice
          have ZY := Lib.hid (box_new w6 nx py qy lx hu)
          have hb7 := hb6.trans ((below_new w6 (.cells #[.int .i64 nx, .slice py lx.length qy] 25)).mono hb6.size)
          have Z7 := Lib.hid (Z5.out.later hb7)
          have HB7 := Lib.hid (HB5.out.trans (hb7.mono HB5.out.size))
          clear hu hb6 hb7 x0 x1
          obtain ⟨x0, x1⟩ := Z7.out.cells
          obtain ⟨y0, y1⟩ := ZY.out.cells
          unfold setV
          go_wp2_with fail
          generalize w6.alloc (.cells #[.int .i64 nx, .slice py lx.length qy] 25) = w7 at *
          refine (rrSame_any nx nx (.slice px lx.length qx) (.slice py lx.length qy) lx lx w7 Z7.out.set ZY.out.set HLL.out HLL.out).mono ?_
          rintro e w8 ⟨rfl, hb8⟩
          rw [sameP_self]
          have HB8 := Lib.hid (HB7.out.trans (hb8.mono HB7.out.size))
          clear hb8 x0 x1 y0 y1
          go_wp2_with fail
          go_roundw
          case rel => exact ⟨k + 1, by omega, by go_num, HB8.out⟩
          case measure => simp [intOf]; omega
      · obtain rfl : k = 2 := by omega
        clear hbx
        go_wp2_with fail
        refine (awake07_any wr HMR.out).mono ?_
        rintro e w4 ⟨rfl, hb4⟩
        have HB4 := Lib.hid (HBW.out.trans (hb4.mono HBW.out.size))
        clear hb4
        go_wp2
        go_ret
        exact ⟨rfl, HB4.out⟩
end Go.Proofs.YtolojkkhmamddaaGreatDoor

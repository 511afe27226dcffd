/-
  Walk: the law RangesTexts.
-/
import Derived.Test.YtolojkkhmamddaaGreatDoorNM4
namespace Go.Proofs.YtolojkkhmamddaaGreatDoor
open Go.RowKit

theorem parP_len (n : Int) (s : V.Bs) : (V.parP n s).2.1.length ≤ maxLen := by
  have h : ∀ l, (V.rgParse n s).1 = some l → l.length ≤ maxLen := fun l hl => by
    have := (V.rgParse_ok hl).1.len
    unfold maxLen
    omega
  unfold V.parP
  rcases hp : V.rgParse n s with ⟨_ | l, c⟩
  · exact Nat.zero_le _
  · exact h l (by rw [hp])

set_option maxRecDepth 100000 in
set_option maxHeartbeats 12800000 in
theorem rangesTexts_any (n0 : Int) (u0 : Value) (l0 : List V.Itv) (s : ByteArray) (a : Option Addr) (m cap : Nat) (w : World) (hm : MaxOk w) (hu : Itvs w u0 l0) (hw : ∀ c ∈ l0, ItvWf c) (hl : l0.length ≤ maxLen) (hs : s.size ≤ maxLen) (ht : Nums w a m) :
    Calls Tryz.prog 8 #[setV n0 u0, .string s, .slice a m cap] w fun e w' => e = .returned (.bool true) ∧ Below w.heap.size w w' := by
  obtain ⟨p0, q0, rfl⟩ := hu.slice
  have HU := Lib.hid hu
  have HL0 := Lib.hid (lens_wf hw)
  have HN0 := Lib.hid hl
  have HSS := Lib.hid hs
  have hb0 := below_new w (.cells #[.int .i64 n0, .slice p0 l0.length q0] 25)
  have KX : Hid ((w.alloc (.cells #[.int .i64 n0, .slice p0 l0.length q0] 25)).heap[w.heap.size]? = some (.cells #[.int .i64 n0, .slice p0 l0.length q0] 25 (0, 0))) := Lib.hid (by rw [heap_alloc, if_pos rfl])
  have HB := Lib.hid hb0
  have HM := Lib.hid hm
  have HT := Lib.hid ht
  unfold maxLen at hs
  clear hm hu hw hl ht hb0
  obtain ⟨c0, c1⟩ := set_cells KX.out
  unfold setV
  go_enter Tryz.func8, Tryz.ntmps8
  go_wp2_with fail
  generalize w.alloc (.cells #[.int .i64 n0, .slice p0 l0.length q0] 25) = W0 at *
  refine (light07_any n0 (.slice p0 l0.length q0) l0 W0 (HU.out.below HB.out) HL0.out HN0.out).mono ?_
  rintro e w1 ⟨b, rfl, hb1⟩
  replace KX := Lib.hid (keep4 hb1 KX.out)
  replace HB := Lib.hid (HB.out.trans (hb1.mono HB.out.size))
  have HZ1 : Hid (w.heap.size < w1.heap.size) := Lib.hid ((Array.getElem?_eq_some_iff.1 KX.out).1)
  clear hb1 c0 c1
  rcases b with _ | _
  · go_wp2
    go_ret
    exact ⟨rfl, HB.out⟩
  · by_cases hlong : 10000 < s.size
    · go_wp2
      go_ret
      exact ⟨rfl, HB.out⟩
    · have hb2 := below_new w1 (.cells #[.slice a m cap, .int .i64 0] 46)
      have HTP : Hid (Tape (w1.alloc (.cells #[.slice a m cap, .int .i64 0] 46)) w1.heap.size 0) := Lib.hid (Tape.made (cap := cap) (HT.out.later HB.out) hb2 (Nat.le_refl _) (by rw [cell_alloc, if_pos rfl]; rfl) (by rw [cell_alloc, if_pos rfl]; rfl) (by rw [frozen_alloc, if_pos rfl]))
      replace KX := Lib.hid (keep4 hb2 KX.out)
      replace HB := Lib.hid (HB.out.trans (hb2.mono HB.out.size))
      clear hb2
      go_wp2_with fail
      generalize w1.alloc (.cells #[.slice a m cap, .int .i64 0] 46) = W1 at *
      obtain ⟨tb, htb⟩ : ∃ tb, tb = w1.heap.size := ⟨_, rfl⟩
      rw [← htb] at HTP HZ1 ⊢
      clear htb
      refine (next_any tb 0 3 W1 HTP.out (by omega) (by omega) (by omega)).mono ?_
      rintro e w2 ⟨r, hr, rfl, ht2, hg2⟩
      have hr3 : r < 3 := by omega
      have HN : Hid (V.scheme (1 + (r : Int)) = true) := Lib.hid (by
        have h3 : r = 0 ∨ r = 1 ∨ r = 2 := by omega
        rcases h3 with rfl | rfl | rfl <;> rfl)
      replace HTP := Lib.hid ht2
      replace KX := Lib.hid (keepG hg2 KX.out (by have := HZ1.out; omega))
      replace HB := Lib.hid (HB.out.trans (grown_below hg2 (by have := HZ1.out; omega) HB.out.size))
      clear ht2 hg2 hr
      obtain ⟨c0, c1⟩ := set_cells KX.out
      go_wp2_with fail
      obtain ⟨n, hn⟩ : ∃ n : Int, n = 1 + (r : Int) := ⟨_, rfl⟩
      rw [← hn] at HN
      simp only [← hn]
      clear hn hr3
      refine (rgFormat_any n0 (.slice p0 l0.length q0) l0 w2 (HM.out.below HB.out) (HU.out.below HB.out) HL0.out HN0.out).mono ?_
      rintro e w3 ⟨rfl, hb3⟩
      replace KX := Lib.hid (keep4 hb3 KX.out)
      replace HB := Lib.hid (HB.out.trans (hb3.mono HB.out.size))
      replace HTP := Lib.hid (HTP.out.below hb3)
      clear hb3 c0 c1
      obtain ⟨c0, c1⟩ := set_cells KX.out
      obtain ⟨ft, hft⟩ : ∃ ft, ft = V.formatR n0 l0 := ⟨_, rfl⟩
      have HFT := Lib.hid hft
      rw [← hft]
      clear hft
      go_wp2_with fail
      refine (rrFormat_any n0 (.slice p0 l0.length q0) l0 w3 (HM.out.below HB.out) (HU.out.below HB.out) HL0.out HN0.out).mono ?_
      rintro e w4 ⟨rfl, hb4⟩
      rw [← HFT.out]
      replace KX := Lib.hid (keep4 hb4 KX.out)
      replace HB := Lib.hid (HB.out.trans (hb4.mono HB.out.size))
      replace HTP := Lib.hid (HTP.out.below hb4)
      clear hb4 c0 c1 HFT
      obtain ⟨f1, f2⟩ := ft
      simp only
      have hf1 : ((ByteArray.mk f1.toArray).toList == (ByteArray.mk f1.toArray).toList) = true := by simp
      have hf2 : (f2 != f2) = false := by simp
      generalize (ByteArray.mk f1.toArray) = F at *
      go_wp2_with fail
      refine (textM_any tb 1 n w4 HTP.out (by omega) HN.out).mono ?_
      rintro e w5 ⟨S, x, rr, htx, hrr, rfl, ht5, hg5⟩
      have HSL : Hid (S.size ≤ 1000) := Lib.hid (by have := htx.len HN.out; rw [List.length_cons] at this; rw [ba_len]; omega)
      replace KX := Lib.hid (keepG hg5 KX.out (by have := HZ1.out; omega))
      replace HB := Lib.hid (HB.out.trans (grown_below hg5 (by have := HZ1.out; omega) HB.out.size))
      clear ht5 hg5 htx hrr hf1 hf2
      have hb6 := below_new w5 (.cells #[.string s, .string S] 9)
      have HSTR : Hid (∀ k, k < 2 → ∃ x : ByteArray, x.size ≤ maxLen ∧ (w5.alloc (.cells #[.string s, .string S] 9)).cell? ⟨w5.heap.size, k, none⟩ = some (.string x)) := Lib.hid (by
        intro k hk
        have h2 : k = 0 ∨ k = 1 := by omega
        rcases h2 with rfl | rfl
        · exact ⟨s, HSS.out, by rw [World.cell?_alloc_new]; rfl⟩
        · exact ⟨S, by have := HSL.out; unfold maxLen; omega, by rw [World.cell?_alloc_new]; rfl⟩)
      replace KX := Lib.hid (keep4 hb6 KX.out)
      replace HB := Lib.hid (HB.out.trans (hb6.mono HB.out.size))
      clear hb6
      go_wp2_with fail
      generalize w5.alloc (.cells #[.string s, .string S] 9) = W6 at *
      obtain ⟨G, hG⟩ : ∃ G, G = w5.heap.size := ⟨_, rfl⟩
      rw [← hG] at HSTR ⊢
      clear hG
      go_loopw [59] (fun iv wx => ∃ k : Nat, k ≤ 2 ∧ iv = .int .i64 k ∧ Below W6.heap.size W6 wx) (fun iv _ => 2 - (intOf iv).toNat)
      case atStart => exact ⟨0, by omega, rfl, Below.refl _ _⟩
      case round =>
        obtain ⟨k, hk, rfl, hbx⟩ := hrel
        have HBX := Lib.hid hbx
        have HBW := Lib.hid (HB.out.trans (hbx.mono HB.out.size))
        by_cases hlt : k < 2
        · obtain ⟨xs, hxl, hxc⟩ := HSTR.out k hlt
          have hxc2 := below_keep hbx hxc
          have HXL := Lib.hid hxl
          have KX1 := Lib.hid (keep4 hbx KX.out)
          have hi1 : (0 : Int) ≤ (k : Int) := by omega
          have hi2 : (k : Int) < 2 := by omega
          obtain ⟨wo, rfl⟩ : ∃ wo : World, wo = wr := ⟨_, rfl⟩
          clear hbx hxl hxc
          obtain ⟨c0, c1⟩ := set_cells KX1.out
          have hb7 := below_new wo (.cells #[.int .i64 n, .int .i64 n0] 3)
          have HNUM : Hid (∀ j, j < 2 → ∃ z : Int, (wo.alloc (.cells #[.int .i64 n, .int .i64 n0] 3)).cell? ⟨wo.heap.size, j, none⟩ = some (.int .i64 z)) := Lib.hid (by
            intro j hj
            have h2 : j = 0 ∨ j = 1 := by omega
            rcases h2 with rfl | rfl
            · exact ⟨n, by rw [World.cell?_alloc_new]; rfl⟩
            · exact ⟨n0, by rw [World.cell?_alloc_new]; rfl⟩)
          have HB7 := Lib.hid (HBX.out.trans (hb7.mono HBX.out.size))
          have HM7 := Lib.hid (HM.out.below (HBW.out.trans (hb7.mono HBW.out.size)))
          clear hb7
          go_wp2_with fail
          clear c0 c1 hxc2
          generalize wo.alloc (.cells #[.int .i64 n, .int .i64 n0] 3) = W7 at *
          obtain ⟨H, hH⟩ : ∃ H, H = wo.heap.size := ⟨_, rfl⟩
          rw [← hH] at HNUM ⊢
          clear hH
          go_loopw [68] (fun iv wx => ∃ j : Nat, j ≤ 2 ∧ iv = .int .i64 j ∧ Below W7.heap.size W7 wx) (fun iv _ => 2 - (intOf iv).toNat)
          case atStart => exact ⟨0, by omega, rfl, Below.refl _ _⟩
          case round =>
            obtain ⟨j, hj, rfl, hby⟩ := hrel
            have HBY := Lib.hid hby
            have HMY := Lib.hid (HM7.out.below hby)
            by_cases hjt : j < 2
            · obtain ⟨z, hz⟩ := HNUM.out j hjt
              have hz2 := below_keep hby hz
              have hj1 : (0 : Int) ≤ (j : Int) := by omega
              have hj2 : (j : Int) < 2 := by omega
              have HXD : Hid (xs.data.toList.length ≤ maxLen) := Lib.hid HXL.out
              obtain ⟨xd, rfl⟩ : ∃ xd : V.Bs, xs = ⟨xd.toArray⟩ := ⟨xs.data.toList, rfl⟩
              rw [bs_mk] at HXD
              have HPL := Lib.hid (parP_len z xd)
              clear hby hz
              go_wp2_with fail
              refine (rgParse_any z xd wr HMY.out HXD.out).mono ?_
              rintro e w8 ⟨u, rfl, hu, _, hb8⟩
              obtain ⟨pr, hpr⟩ : ∃ pr, pr = V.parP z xd := ⟨_, rfl⟩
              have HPR := Lib.hid hpr
              rw [← hpr] at hu HPL ⊢
              clear hpr hz2
              obtain ⟨kz, lz, ez⟩ := pr
              simp only at hu HPL ⊢
              obtain ⟨py, qy, rfl⟩ := hu.slice
              have ZY := Lib.hid (box_new w8 kz py qy lz hu)
              have hb9 := hb8.trans ((below_new w8 (.cells #[.int .i64 kz, .slice py lz.length qy] 25)).mono hb8.size)
              have HB9 := Lib.hid (HBY.out.trans (hb9.mono HBY.out.size))
              have HM9 := Lib.hid (HMY.out.below hb9)
              clear hu hb8 hb9
              unfold setV
              go_wp2_with fail
              generalize w8.alloc (.cells #[.int .i64 kz, .slice py lz.length qy] 25) = w9 at *
              refine (rrParse_any z xd w9 HM9.out HXD.out).mono ?_
              rintro e w10 ⟨u, rfl, hu, _, hb10⟩
              rw [← HPR.out] at hu ⊢
              simp only at hu ⊢
              obtain ⟨pz, qz, rfl⟩ := hu.slice
              have ZZ := Lib.hid (box_new w10 kz pz qz lz hu)
              have hb11 := hb10.trans ((below_new w10 (.cells #[.int .i64 kz, .slice pz lz.length qz] 25)).mono hb10.size)
              have ZY2 := Lib.hid (ZY.out.later hb11)
              have HB11 := Lib.hid (HB9.out.trans (hb11.mono HB9.out.size))
              have hez : (ez != ez) = false := by simp
              clear hu hb10 hb11
              obtain ⟨y0, y1⟩ := ZY2.out.cells
              obtain ⟨z0, z1⟩ := ZZ.out.cells
              unfold setV
              go_wp2_with fail
              generalize w10.alloc (.cells #[.int .i64 kz, .slice pz lz.length qz] 25) = w11 at *
              refine (rrSame_any kz kz (.slice py lz.length qy) (.slice pz lz.length qz) lz lz w11 ZY2.out.set ZZ.out.set HPL.out HPL.out).mono ?_
              rintro e w12 ⟨rfl, hb12⟩
              rw [sameP_self]
              have HB12 := Lib.hid (HB11.out.trans (hb12.mono HB11.out.size))
              clear hb12 y0 y1 z0 z1
              go_wp2_with fail
              go_roundw
              case rel => exact ⟨j + 1, by omega, by go_num, HB12.out⟩
              case measure => simp [intOf]; omega
            · obtain rfl : j = 2 := by omega
              clear hby
              have HBZ := Lib.hid (HB7.out.trans (HBY.out.mono HB7.out.size))
              go_wp2_with fail
              go_roundw
              case rel => exact ⟨k + 1, by omega, by go_num, HBZ.out⟩
              case measure => simp [intOf]; omega
        · obtain rfl : k = 2 := by omega
          clear hbx
          go_wp2_with fail
          refine (awake07_any wr (HM.out.below HBW.out)).mono ?_
          rintro e w4 ⟨rfl, hb4⟩
          have HB4 := Lib.hid (HBW.out.trans (hb4.mono HBW.out.size))
          clear hb4
          go_wp2
          go_ret
          exact ⟨rfl, HB4.out⟩
end Go.Proofs.YtolojkkhmamddaaGreatDoor

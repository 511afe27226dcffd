/-
  Walk: the law RangesComputes. (Printed by gen_NM7.py.)
-/
import Derived.Test.YtolojkkhmamddaaGreatDoorNM0
namespace Go.Proofs.YtolojkkhmamddaaGreatDoor
open Go.RowKit

theorem limP_len (n : Int) (l : List V.Itv) : (V.limP n l).2.1.length ≤ maxLen := by
  unfold V.limP maxLen
  split
  · simp only; omega
  · simp
theorem opP_len (f : Bool → Bool → Bool) (n : Int) (a : List V.Itv) (m : Int) (b : List V.Itv) : (V.opP f n a m b).2.1.length ≤ maxLen := by
  unfold V.opP
  split
  · exact limP_len _ _
  · exact Nat.zero_le _
theorem compP_len (n : Int) (a : List V.Itv) : (V.compP n a).2.1.length ≤ maxLen := by
  unfold V.compP
  split
  · exact limP_len _ _
  · exact Nat.zero_le _
theorem cells_two {W : World} {X : Nat} {n : Int} {p : Option Addr} {m q : Nat} {n' : Int} {p' : Option Addr} {m' q' : Nat} {t : TypeId} (h : W.heap[X]? = some (.cells #[.int .i64 n, .slice p m q, .int .i64 n', .slice p' m' q'] t (0, 0))) :
    W.cell? ⟨X, 0, none⟩ = some (.int .i64 n) ∧ W.cell? ⟨X, 1, none⟩ = some (.slice p m q) ∧ W.cell? ⟨X, 2, none⟩ = some (.int .i64 n') ∧ W.cell? ⟨X, 3, none⟩ = some (.slice p' m' q') :=
  ⟨Lib.cell_of_heap h 0, Lib.cell_of_heap h 1, Lib.cell_of_heap h 2, Lib.cell_of_heap h 3⟩
theorem below_putT {W0 W W' : World} {g : Nat} {new : Array Value} {t : TypeId} (h : PutAt W W' g new t) (hb : Below W0.heap.size W0 W) (hg : W0.heap.size ≤ g) : Below W0.heap.size W0 W' := h.below hb hg

set_option maxRecDepth 100000 in
set_option maxHeartbeats 25600000 in
theorem rangesComputes_any (nR : Int) (uR : Value) (lR : List V.Itv) (nS : Int) (uS : Value) (lS : List V.Itv) (a : Option Addr) (m cap : Nat) (w : World) (hm : MaxOk w) (huR : Itvs w uR lR) (hwR : ∀ c ∈ lR, ItvWf c) (hlR : lR.length ≤ maxLen) (huS : Itvs w uS lS) (hwS : ∀ c ∈ lS, ItvWf c) (hlS : lS.length ≤ maxLen) (ht : Nums w a m) :
    Calls Tryz.prog 7 #[setV nR uR, setV nS uS, .slice a m cap] w fun e w' => e = .returned (.bool true) ∧ Below w.heap.size w w' := by
  obtain ⟨pR, qR, rfl⟩ := huR.slice
  obtain ⟨pS, qS, rfl⟩ := huS.slice
  have HLR := Lib.hid (lens_wf hwR)
  have HNR := Lib.hid hlR
  have HLS := Lib.hid (lens_wf hwS)
  have HNS := Lib.hid hlS
  have hb0 := below_new w (.cells #[.int .i64 nR, .slice pR lR.length qR] 25)
  have hb0' := below_new (w.alloc (.cells #[.int .i64 nR, .slice pR lR.length qR] 25)) (.cells #[.int .i64 nS, .slice pS lS.length qS] 25)
  have ZR := Lib.hid ((box_new w nR pR qR lR huR).later hb0')
  have ZS := Lib.hid (box_new (w.alloc (.cells #[.int .i64 nR, .slice pR lR.length qR] 25)) nS pS qS lS (huS.below hb0))
  have hbT := hb0.trans (hb0'.mono hb0.size)
  have HB := Lib.hid hbT
  have HM := Lib.hid (hm.below hbT)
  have HT := Lib.hid (ht.later hbT)
  have hzs : (w.alloc (.cells #[.int .i64 nR, .slice pR lR.length qR] 25)).heap.size = w.heap.size + 1 := by simp
  rw [hzs] at ZS
  clear hm huR huS hwR hwS hlR hlS ht hb0 hb0' hbT hzs
  obtain ⟨cR0, cR1⟩ := ZR.out.cells
  obtain ⟨cS0, cS1⟩ := ZS.out.cells
  unfold setV
  go_enter Tryz.func7, Tryz.ntmps7
  go_wp2_with fail
  generalize (w.alloc (.cells #[.int .i64 nR, .slice pR lR.length qR] 25)).alloc (.cells #[.int .i64 nS, .slice pS lS.length qS] 25) = W0 at *
  refine (light07_any nR (.slice pR lR.length qR) lR W0 ZR.out.set HLR.out HNR.out).mono ?_
  rintro e w1 ⟨b, rfl, hb1⟩
  replace ZR := Lib.hid (ZR.out.later hb1)
  replace ZS := Lib.hid (ZS.out.later hb1)
  replace HB := Lib.hid (HB.out.trans (hb1.mono HB.out.size))
  replace HM := Lib.hid (HM.out.below hb1)
  replace HT := Lib.hid (HT.out.later hb1)
  clear hb1 cR0 cR1 cS0 cS1
  obtain ⟨cR0, cR1⟩ := ZR.out.cells
  obtain ⟨cS0, cS1⟩ := ZS.out.cells
  rcases b with _ | _
  · go_wp2
    go_ret
    exact ⟨rfl, HB.out⟩
  · go_wp2_with fail
    refine (light07_any nS (.slice pS lS.length qS) lS w1 ZS.out.set HLS.out HNS.out).mono ?_
    rintro e w1' ⟨b, rfl, hb1⟩
    replace ZR := Lib.hid (ZR.out.later hb1)
    replace ZS := Lib.hid (ZS.out.later hb1)
    replace HB := Lib.hid (HB.out.trans (hb1.mono HB.out.size))
    replace HM := Lib.hid (HM.out.below hb1)
    replace HT := Lib.hid (HT.out.later hb1)
    clear hb1 cR0 cR1 cS0 cS1
    rcases b with _ | _
    · go_wp2
      go_ret
      exact ⟨rfl, HB.out⟩
    · go_wp2_with fail
      refine (made07_any a m cap w1' HM.out HT.out).mono ?_
      rintro e w2 ⟨n, lA, lB, v, pA, qA, pB, qB, hn, hfa, hfb, hv, rfl, ha, hb, hb2⟩
      have OA := Lib.hid hfa
      have OB := Lib.hid hfb
      have hvl : (ByteArray.mk v.toArray).size ≤ 64 := by have := (V.valid_len hv).2; simpa [ByteArray.size] using this
      obtain ⟨h2, ZA, ZB⟩ := two_boxes w2 n pA pB qA qB lA lB ha hb
      have hbT := hb2.trans (h2.mono hb2.size)
      replace ZR := Lib.hid (ZR.out.later hbT)
      replace ZS := Lib.hid (ZS.out.later hbT)
      replace HB := Lib.hid (HB.out.trans (hbT.mono HB.out.size))
      replace HM := Lib.hid (HM.out.below hbT)
      replace ZA := Lib.hid ZA
      replace ZB := Lib.hid ZB
      obtain ⟨cR0, cR1⟩ := ZR.out.cells
      obtain ⟨cS0, cS1⟩ := ZS.out.cells
      obtain ⟨cA0, cA1⟩ := ZA.out.cells
      obtain ⟨cB0, cB1⟩ := ZB.out.cells
      have hz2 : ((w2.alloc (.cells #[.int .i64 n, .slice pA lA.length qA] 25)).alloc (.cells #[.int .i64 n, .slice pB lB.length qB] 25)).heap.size = w2.heap.size + 1 + 1 := by simp
      clear hn hfa hfb hv ha hb hb2 h2 hbT HT
      unfold setV
      obtain ⟨W2, hW2⟩ : ∃ W2, W2 = (w2.alloc (.cells #[.int .i64 n, .slice pA lA.length qA] 25)).alloc (.cells #[.int .i64 n, .slice pB lB.length qB] 25) := ⟨_, rfl⟩
      rw [← hW2] at ZR ZS HB HM ZA ZB hz2
      have HW2 := Lib.hid hW2
      clear hW2
      obtain ⟨CS, hCS⟩ : ∃ CS, CS = (.cells #[.int .i64 nR, .slice pR lR.length qR, .int .i64 nS, .slice pS lS.length qS, .int .i64 n, .slice pA lA.length qA, .int .i64 n, .slice pB lB.length qB, .int .i64 n, .slice pA lA.length qA, .int .i64 nS, .slice pS lS.length qS] 41 : Obj) := ⟨_, rfl⟩
      have hb3 := below_new W2 CS
      have HG : Hid (∀ k, k < 3 → ∃ (n1 : Int) (p1 : Option Addr) (q1 : Nat) (l1 : List V.Itv) (n2 : Int) (p2 : Option Addr) (q2 : Nat) (l2 : List V.Itv), (Itvs (W2.alloc CS) (.slice p1 l1.length q1) l1 ∧ Lens l1 ∧ l1.length ≤ maxLen) ∧ (Itvs (W2.alloc CS) (.slice p2 l2.length q2) l2 ∧ Lens l2 ∧ l2.length ≤ maxLen) ∧
          (W2.alloc CS).cell? ⟨w2.heap.size + 1 + 1, k * 4, none⟩ = some (.int .i64 n1) ∧ (W2.alloc CS).cell? ⟨w2.heap.size + 1 + 1, k * 4 + 1, none⟩ = some (.slice p1 l1.length q1) ∧
          (W2.alloc CS).cell? ⟨w2.heap.size + 1 + 1, k * 4 + 2, none⟩ = some (.int .i64 n2) ∧ (W2.alloc CS).cell? ⟨w2.heap.size + 1 + 1, k * 4 + 3, none⟩ = some (.slice p2 l2.length q2)) := Lib.hid (by
        intro k hk
        rw [← hz2, hCS] at *
        have h3 : k = 0 ∨ k = 1 ∨ k = 2 := by omega
        rcases h3 with rfl | rfl | rfl
        · exact ⟨nR, pR, qR, lR, nS, pS, qS, lS, ⟨ZR.out.set.below hb3, HLR.out, HNR.out⟩, ⟨ZS.out.set.below hb3, HLS.out, HNS.out⟩, by rw [World.cell?_alloc_new]; rfl, by rw [World.cell?_alloc_new]; rfl, by rw [World.cell?_alloc_new]; rfl, by rw [World.cell?_alloc_new]; rfl⟩
        · exact ⟨n, pA, qA, lA, n, pB, qB, lB, ⟨ZA.out.set.below hb3, lens_ok OA.out.ok, few_len OA.out⟩, ⟨ZB.out.set.below hb3, lens_ok OB.out.ok, few_len OB.out⟩, by rw [World.cell?_alloc_new]; rfl, by rw [World.cell?_alloc_new]; rfl, by rw [World.cell?_alloc_new]; rfl, by rw [World.cell?_alloc_new]; rfl⟩
        · exact ⟨n, pA, qA, lA, nS, pS, qS, lS, ⟨ZA.out.set.below hb3, lens_ok OA.out.ok, few_len OA.out⟩, ⟨ZS.out.set.below hb3, HLS.out, HNS.out⟩, by rw [World.cell?_alloc_new]; rfl, by rw [World.cell?_alloc_new]; rfl, by rw [World.cell?_alloc_new]; rfl, by rw [World.cell?_alloc_new]; rfl⟩)
      have HB3 := Lib.hid (HB.out.trans (hb3.mono HB.out.size))
      have HM3 := Lib.hid (HM.out.below hb3)
      have HCS := Lib.hid hCS
      clear hb3 hz2 hCS
      go_wp2_with fail
      rw [← HW2.out, ← HCS.out]
      clear cR0 cR1 cS0 cS1 cA0 cA1 cB0 cB1
      generalize W2.alloc CS = W3 at *
      obtain ⟨G, hG⟩ : ∃ G, G = w2.heap.size + 1 + 1 := ⟨_, rfl⟩
      rw [← hG] at HG ⊢
      clear hG
      go_loopw [45] (fun iv wx => ∃ k : Nat, k ≤ 3 ∧ iv = .int .i64 k ∧ Below W3.heap.size W3 wx) (fun iv _ => 3 - (intOf iv).toNat)
      case atStart => exact ⟨0, by omega, rfl, Below.refl _ _⟩
      case round =>
        obtain ⟨k, hk, rfl, hbx⟩ := hrel
        have HBX := Lib.hid hbx
        have HBW := Lib.hid (HB3.out.trans (hbx.mono HB3.out.size))
        by_cases hlt : k < 3
        · obtain ⟨n1, p1, q1, l1, n2, p2, q2, l2, ⟨hi1, hn1, hl1⟩, ⟨hi2, hn2, hl2⟩, d0, d1, d2, d3⟩ := HG.out k hlt
          have I1 := Lib.hid hi1
          have I2 := Lib.hid hi2
          have N1 := Lib.hid hn1
          have N2 := Lib.hid hn2
          have M1 := Lib.hid hl1
          have M2 := Lib.hid hl2
          have g0 := below_keep hbx d0
          have g1 := below_keep hbx d1
          have g2 := below_keep hbx d2
          have g3 := below_keep hbx d3
          have hj1 : (0 : Int) ≤ (k : Int) := by omega
          have hj2 : (k : Int) < 3 := by omega
          have KE : Hid ((wr.alloc (.cells #[.int .i64 n1, .slice p1 l1.length q1, .int .i64 n2, .slice p2 l2.length q2] 41)).heap[wr.heap.size]? = some (.cells #[.int .i64 n1, .slice p1 l1.length q1, .int .i64 n2, .slice p2 l2.length q2] 41 (0, 0))) := Lib.hid (by rw [heap_alloc, if_pos rfl])
          have hb4 := below_new wr (.cells #[.int .i64 n1, .slice p1 l1.length q1, .int .i64 n2, .slice p2 l2.length q2] 41)
          have HBE := Lib.hid (hbx.trans (hb4.mono hbx.size))
          have HEW : Hid (W3.heap.size ≤ wr.heap.size) := Lib.hid hbx.size
          obtain ⟨c0, c1, c2, c3⟩ := cells_two KE.out
          clear hbx hi1 hi2 hn1 hn2 hl1 hl2 d0 d1 d2 d3 hb4
          go_wp2_with fail
          clear g0 g1 g2 g3
          generalize wr.alloc (.cells #[.int .i64 n1, .slice p1 l1.length q1, .int .i64 n2, .slice p2 l2.length q2] 41) = V0 at *
          obtain ⟨E, hE⟩ : ∃ E, E = wr.heap.size := ⟨_, rfl⟩
          rw [← hE] at KE HEW c0 c1 c2 c3 ⊢
          clear hE
          refine (rgUnion_any n1 n2 (.slice p1 l1.length q1) (.slice p2 l2.length q2) l1 l2 V0 (HM3.out.below HBE.out) (I1.out.below HBE.out) (I2.out.below HBE.out) N1.out N2.out M1.out M2.out).mono ?_
          rintro e v1 ⟨u1, rfl, hu1, how1, hb1⟩
          obtain ⟨pr, hpr⟩ : ∃ pr, pr = V.opP V.orF n1 l1 n2 l2 := ⟨_, rfl⟩
          have HPR1 := Lib.hid hpr
          have HPL1 : Hid (pr.2.1.length ≤ maxLen) := Lib.hid (by rw [hpr]; exact opP_len V.orF n1 l1 n2 l2)
          rw [← hpr] at hu1 ⊢
          clear hpr
          obtain ⟨kx1, lx1, ex1⟩ := pr
          simp only at hu1 HPL1 ⊢
          obtain ⟨pu1, qu1, rfl⟩ := hu1.slice
          unfold setV
          clear c0 c1 c2 c3
          have hbn1 := below_new v1 (.cells #[.int .i64 kx1, .slice pu1 lx1.length qu1] 25)
          have hbT1 := hb1.trans (hbn1.mono hb1.size)
          have HFP : Hid (W3.heap.size ≤ v1.heap.size) := Lib.hid (Nat.le_trans HBE.out.size hb1.size)
          have HEP : Hid (E < v1.heap.size) := Lib.hid (Nat.lt_of_lt_of_le (Array.getElem?_eq_some_iff.1 KE.out).1 hb1.size)
          replace KE := Lib.hid (keep4 hbT1 KE.out)
          replace HBE := Lib.hid (HBE.out.trans (hbT1.mono HBE.out.size))
          have KP : Hid ((v1.alloc (.cells #[.int .i64 kx1, .slice pu1 lx1.length qu1] 25)).heap[v1.heap.size]? = some (.cells #[.int .i64 kx1, .slice pu1 lx1.length qu1] 25 (0, 0))) := Lib.hid (by rw [heap_alloc, if_pos rfl])
          have ZP := Lib.hid (hu1.below hbn1)
          clear hu1 how1 hb1 hbn1 hbT1
          obtain ⟨c0, c1, c2, c3⟩ := cells_two KE.out
          go_wp2_with fail
          generalize v1.alloc (.cells #[.int .i64 kx1, .slice pu1 lx1.length qu1] 25) = V1 at *
          obtain ⟨XP, hXP⟩ : ∃ X, X = v1.heap.size := ⟨_, rfl⟩
          simp only [← hXP] at *
          clear hXP
          have hee1 : (ex1 != ex1) = false := by simp
          refine (rrUnion_any n1 n2 (.slice p1 l1.length q1) (.slice p2 l2.length q2) l1 l2 V1 (HM3.out.below HBE.out) (I1.out.below HBE.out) (I2.out.below HBE.out) N1.out N2.out M1.out M2.out).mono ?_
          rintro e v2 ⟨u2, rfl, hu2, how2, hb2⟩
          rw [← HPR1.out] at hu2 ⊢
          simp only at hu2 ⊢
          obtain ⟨pu2, qu2, rfl⟩ := hu2.slice
          unfold setV
          clear c0 c1 c2 c3
          have hbn2 := below_new v2 (.cells #[.int .i64 kx1, .slice pu2 lx1.length qu2] 25)
          have hbT2 := hb2.trans (hbn2.mono hb2.size)
          have HFQ : Hid (W3.heap.size ≤ v2.heap.size) := Lib.hid (Nat.le_trans HBE.out.size hb2.size)
          have HEQ : Hid (E < v2.heap.size) := Lib.hid (Nat.lt_of_lt_of_le (Array.getElem?_eq_some_iff.1 KE.out).1 hb2.size)
          have HPQ : Hid (XP < v2.heap.size) := Lib.hid (Nat.lt_of_lt_of_le (Array.getElem?_eq_some_iff.1 KP.out).1 hb2.size)
          replace KE := Lib.hid (keep4 hbT2 KE.out)
          replace KP := Lib.hid (keep4 hbT2 KP.out)
          replace ZP := Lib.hid (ZP.out.below hbT2)
          replace HBE := Lib.hid (HBE.out.trans (hbT2.mono HBE.out.size))
          have KQ : Hid ((v2.alloc (.cells #[.int .i64 kx1, .slice pu2 lx1.length qu2] 25)).heap[v2.heap.size]? = some (.cells #[.int .i64 kx1, .slice pu2 lx1.length qu2] 25 (0, 0))) := Lib.hid (by rw [heap_alloc, if_pos rfl])
          have ZQ := Lib.hid (hu2.below hbn2)
          clear hu2 how2 hb2 hbn2 hbT2
          obtain ⟨c0, c1, c2, c3⟩ := cells_two KE.out
          obtain ⟨x0, x1⟩ := set_cells KP.out
          obtain ⟨y0, y1⟩ := set_cells KQ.out
          go_wp2_with fail
          generalize v2.alloc (.cells #[.int .i64 kx1, .slice pu2 lx1.length qu2] 25) = V2 at *
          obtain ⟨XQ, hXQ⟩ : ∃ X, X = v2.heap.size := ⟨_, rfl⟩
          simp only [← hXQ] at *
          clear hXQ
          refine (rrSame_any kx1 kx1 (.slice pu1 lx1.length qu1) (.slice pu2 lx1.length qu2) lx1 lx1 V2 ZP.out ZQ.out HPL1.out HPL1.out).mono ?_
          rintro e v3 ⟨rfl, hb3⟩
          rw [sameP_self]
          clear c0 c1 c2 c3 x0 x1 y0 y1
          replace KE := Lib.hid (keep4 hb3 KE.out)
          replace KP := Lib.hid (keep4 hb3 KP.out)
          replace ZP := Lib.hid (ZP.out.below hb3)
          replace KQ := Lib.hid (keep4 hb3 KQ.out)
          replace ZQ := Lib.hid (ZQ.out.below hb3)
          replace HBE := Lib.hid (HBE.out.trans (hb3.mono HBE.out.size))
          clear hb3
          obtain ⟨c0, c1, c2, c3⟩ := cells_two KE.out
          go_wp2_with fail
          refine (rgIntersect_any n1 n2 (.slice p1 l1.length q1) (.slice p2 l2.length q2) l1 l2 v3 (HM3.out.below HBE.out) (I1.out.below HBE.out) (I2.out.below HBE.out) N1.out N2.out M1.out M2.out).mono ?_
          rintro e v4 ⟨u4, rfl, hu4, how4, hb4⟩
          obtain ⟨pr, hpr⟩ : ∃ pr, pr = V.opP V.andF n1 l1 n2 l2 := ⟨_, rfl⟩
          have HPR4 := Lib.hid hpr
          have HPL4 : Hid (pr.2.1.length ≤ maxLen) := Lib.hid (by rw [hpr]; exact opP_len V.andF n1 l1 n2 l2)
          rw [← hpr] at hu4 ⊢
          clear hpr
          obtain ⟨kx4, lx4, ex4⟩ := pr
          simp only at hu4 HPL4 ⊢
          obtain ⟨pu4, qu4, rfl⟩ := hu4.slice
          unfold setV
          clear c0 c1 c2 c3
          have HOW4 := Lib.hid (fun c hc => Nat.ne_of_gt (Nat.lt_of_lt_of_le (Array.getElem?_eq_some_iff.1 KP.out).1 (how4 c hc)))
          have HOWP := Lib.hid (fun c hc => Nat.ne_of_gt (Nat.lt_of_lt_of_le (Array.getElem?_eq_some_iff.1 KQ.out).1 (how4 c hc)))
          replace KE := Lib.hid (keep4 hb4 KE.out)
          replace KP := Lib.hid (keep4 hb4 KP.out)
          replace ZP := Lib.hid (ZP.out.below hb4)
          replace KQ := Lib.hid (keep4 hb4 KQ.out)
          replace ZQ := Lib.hid (ZQ.out.below hb4)
          replace HBE := Lib.hid (HBE.out.trans (hb4.mono HBE.out.size))
          have HU4 := Lib.hid hu4
          clear hu4 how4 hb4
          go_wp2_with (first | (refine wl_putRow rfl 25 _ _ rfl XP _ _ KP.out rfl #[.int .i64 kx4, .slice pu4 lx4.length qu4] rfl rfl (by kernel_rfl) (setC_all _ _ _ _) ?_; intro V4 hp4; have KE4 := Lib.hid (hp4.other KE.out (by have := HEP.out; omega)); have KO4 := Lib.hid (hp4.other KQ.out (by have := HPQ.out; omega)); have KH4 := Lib.hid hp4.here; have ZH4 := Lib.hid (hp4.itvs HU4.out HOW4.out); have HBE4 := Lib.hid (hp4.below HBE.out HFP.out); clear hp4; obtain ⟨c0, c1, c2, c3⟩ := cells_two KE4.out) | fail)
          clear KE KP KQ HBE ZP ZQ
          have KE := KE4
          have KQ := KO4
          have KP := KH4
          have ZP := ZH4
          have HBE := HBE4
          clear KE4 KO4 KH4 ZH4 HBE4 HU4 HOW4
          have hee4 : (ex4 != ex4) = false := by simp
          refine (rrIntersect_any n1 n2 (.slice p1 l1.length q1) (.slice p2 l2.length q2) l1 l2 V4 (HM3.out.below HBE.out) (I1.out.below HBE.out) (I2.out.below HBE.out) N1.out N2.out M1.out M2.out).mono ?_
          rintro e v5 ⟨u5, rfl, hu5, how5, hb5⟩
          rw [← HPR4.out] at hu5 ⊢
          simp only at hu5 ⊢
          obtain ⟨pu5, qu5, rfl⟩ := hu5.slice
          unfold setV
          clear c0 c1 c2 c3
          have HOW5 := Lib.hid (fun c hc => Nat.ne_of_gt (Nat.lt_of_lt_of_le (Array.getElem?_eq_some_iff.1 KQ.out).1 (how5 c hc)))
          replace KE := Lib.hid (keep4 hb5 KE.out)
          replace KP := Lib.hid (keep4 hb5 KP.out)
          replace ZP := Lib.hid (ZP.out.below hb5)
          replace KQ := Lib.hid (keep4 hb5 KQ.out)
          replace HBE := Lib.hid (HBE.out.trans (hb5.mono HBE.out.size))
          have HU5 := Lib.hid hu5
          clear hu5 how5 hb5
          go_wp2_with (first | (refine wl_putRow rfl 25 _ _ rfl XQ _ _ KQ.out rfl #[.int .i64 kx4, .slice pu5 lx4.length qu5] rfl rfl (by kernel_rfl) (setC_all _ _ _ _) ?_; intro V5 hp5; have KE5 := Lib.hid (hp5.other KE.out (by have := HEQ.out; omega)); have KO5 := Lib.hid (hp5.other KP.out (by have := HPQ.out; omega)); have KH5 := Lib.hid hp5.here; have ZH5 := Lib.hid (hp5.itvs HU5.out HOW5.out); have HBE5 := Lib.hid (hp5.below HBE.out HFQ.out); have ZO5 := Lib.hid (hp5.itvs ZP.out HOWP.out); clear hp5; obtain ⟨c0, c1, c2, c3⟩ := cells_two KE5.out; obtain ⟨x0, x1⟩ := set_cells KO5.out; obtain ⟨y0, y1⟩ := set_cells KH5.out) | fail)
          clear KE KP KQ HBE ZP
          have KE := KE5
          have KP := KO5
          have KQ := KH5
          have ZQ := ZH5
          have HBE := HBE5
          have ZP := ZO5
          clear KE5 KO5 KH5 ZH5 HBE5 HU5 HOW5 ZO5 HOWP
          refine (rrSame_any kx4 kx4 (.slice pu4 lx4.length qu4) (.slice pu5 lx4.length qu5) lx4 lx4 V5 ZP.out ZQ.out HPL4.out HPL4.out).mono ?_
          rintro e v6 ⟨rfl, hb6⟩
          rw [sameP_self]
          clear c0 c1 c2 c3 x0 x1 y0 y1
          replace KE := Lib.hid (keep4 hb6 KE.out)
          replace KP := Lib.hid (keep4 hb6 KP.out)
          replace ZP := Lib.hid (ZP.out.below hb6)
          replace KQ := Lib.hid (keep4 hb6 KQ.out)
          replace ZQ := Lib.hid (ZQ.out.below hb6)
          replace HBE := Lib.hid (HBE.out.trans (hb6.mono HBE.out.size))
          clear hb6
          obtain ⟨c0, c1, c2, c3⟩ := cells_two KE.out
          go_wp2_with fail
          refine (rgMinus_any n1 n2 (.slice p1 l1.length q1) (.slice p2 l2.length q2) l1 l2 v6 (HM3.out.below HBE.out) (I1.out.below HBE.out) (I2.out.below HBE.out) N1.out N2.out M1.out M2.out).mono ?_
          rintro e v7 ⟨u7, rfl, hu7, how7, hb7⟩
          obtain ⟨pr, hpr⟩ : ∃ pr, pr = V.opP V.minusF n1 l1 n2 l2 := ⟨_, rfl⟩
          have HPR7 := Lib.hid hpr
          have HPL7 : Hid (pr.2.1.length ≤ maxLen) := Lib.hid (by rw [hpr]; exact opP_len V.minusF n1 l1 n2 l2)
          rw [← hpr] at hu7 ⊢
          clear hpr
          obtain ⟨kx7, lx7, ex7⟩ := pr
          simp only at hu7 HPL7 ⊢
          obtain ⟨pu7, qu7, rfl⟩ := hu7.slice
          unfold setV
          clear c0 c1 c2 c3
          have HOW7 := Lib.hid (fun c hc => Nat.ne_of_gt (Nat.lt_of_lt_of_le (Array.getElem?_eq_some_iff.1 KP.out).1 (how7 c hc)))
          have HOWP := Lib.hid (fun c hc => Nat.ne_of_gt (Nat.lt_of_lt_of_le (Array.getElem?_eq_some_iff.1 KQ.out).1 (how7 c hc)))
          replace KE := Lib.hid (keep4 hb7 KE.out)
          replace KP := Lib.hid (keep4 hb7 KP.out)
          replace ZP := Lib.hid (ZP.out.below hb7)
          replace KQ := Lib.hid (keep4 hb7 KQ.out)
          replace ZQ := Lib.hid (ZQ.out.below hb7)
          replace HBE := Lib.hid (HBE.out.trans (hb7.mono HBE.out.size))
          have HU7 := Lib.hid hu7
          clear hu7 how7 hb7
          go_wp2_with (first | (refine wl_putRow rfl 25 _ _ rfl XP _ _ KP.out rfl #[.int .i64 kx7, .slice pu7 lx7.length qu7] rfl rfl (by kernel_rfl) (setC_all _ _ _ _) ?_; intro V7 hp7; have KE7 := Lib.hid (hp7.other KE.out (by have := HEP.out; omega)); have KO7 := Lib.hid (hp7.other KQ.out (by have := HPQ.out; omega)); have KH7 := Lib.hid hp7.here; have ZH7 := Lib.hid (hp7.itvs HU7.out HOW7.out); have HBE7 := Lib.hid (hp7.below HBE.out HFP.out); clear hp7; obtain ⟨c0, c1, c2, c3⟩ := cells_two KE7.out) | fail)
          clear KE KP KQ HBE ZP ZQ
          have KE := KE7
          have KQ := KO7
          have KP := KH7
          have ZP := ZH7
          have HBE := HBE7
          clear KE7 KO7 KH7 ZH7 HBE7 HU7 HOW7
          have hee7 : (ex7 != ex7) = false := by simp
          refine (rrMinus_any n1 n2 (.slice p1 l1.length q1) (.slice p2 l2.length q2) l1 l2 V7 (HM3.out.below HBE.out) (I1.out.below HBE.out) (I2.out.below HBE.out) N1.out N2.out M1.out M2.out).mono ?_
          rintro e v8 ⟨u8, rfl, hu8, how8, hb8⟩
          rw [← HPR7.out] at hu8 ⊢
          simp only at hu8 ⊢
          obtain ⟨pu8, qu8, rfl⟩ := hu8.slice
          unfold setV
          clear c0 c1 c2 c3
          have HOW8 := Lib.hid (fun c hc => Nat.ne_of_gt (Nat.lt_of_lt_of_le (Array.getElem?_eq_some_iff.1 KQ.out).1 (how8 c hc)))
          replace KE := Lib.hid (keep4 hb8 KE.out)
          replace KP := Lib.hid (keep4 hb8 KP.out)
          replace ZP := Lib.hid (ZP.out.below hb8)
          replace KQ := Lib.hid (keep4 hb8 KQ.out)
          replace HBE := Lib.hid (HBE.out.trans (hb8.mono HBE.out.size))
          have HU8 := Lib.hid hu8
          clear hu8 how8 hb8
          go_wp2_with (first | (refine wl_putRow rfl 25 _ _ rfl XQ _ _ KQ.out rfl #[.int .i64 kx7, .slice pu8 lx7.length qu8] rfl rfl (by kernel_rfl) (setC_all _ _ _ _) ?_; intro V8 hp8; have KE8 := Lib.hid (hp8.other KE.out (by have := HEQ.out; omega)); have KO8 := Lib.hid (hp8.other KP.out (by have := HPQ.out; omega)); have KH8 := Lib.hid hp8.here; have ZH8 := Lib.hid (hp8.itvs HU8.out HOW8.out); have HBE8 := Lib.hid (hp8.below HBE.out HFQ.out); have ZO8 := Lib.hid (hp8.itvs ZP.out HOWP.out); clear hp8; obtain ⟨c0, c1, c2, c3⟩ := cells_two KE8.out; obtain ⟨x0, x1⟩ := set_cells KO8.out; obtain ⟨y0, y1⟩ := set_cells KH8.out) | fail)
          clear KE KP KQ HBE ZP
          have KE := KE8
          have KP := KO8
          have KQ := KH8
          have ZQ := ZH8
          have HBE := HBE8
          have ZP := ZO8
          clear KE8 KO8 KH8 ZH8 HBE8 HU8 HOW8 ZO8 HOWP
          refine (rrSame_any kx7 kx7 (.slice pu7 lx7.length qu7) (.slice pu8 lx7.length qu8) lx7 lx7 V8 ZP.out ZQ.out HPL7.out HPL7.out).mono ?_
          rintro e v9 ⟨rfl, hb9⟩
          rw [sameP_self]
          clear c0 c1 c2 c3 x0 x1 y0 y1
          replace KE := Lib.hid (keep4 hb9 KE.out)
          replace KP := Lib.hid (keep4 hb9 KP.out)
          replace ZP := Lib.hid (ZP.out.below hb9)
          replace KQ := Lib.hid (keep4 hb9 KQ.out)
          replace ZQ := Lib.hid (ZQ.out.below hb9)
          replace HBE := Lib.hid (HBE.out.trans (hb9.mono HBE.out.size))
          clear hb9
          obtain ⟨c0, c1, c2, c3⟩ := cells_two KE.out
          go_wp2_with fail
          refine (rgComplement_any n1 (.slice p1 l1.length q1) l1 v9 (HM3.out.below HBE.out) (I1.out.below HBE.out) N1.out M1.out).mono ?_
          rintro e v10 ⟨u10, rfl, hu10, how10, hb10⟩
          obtain ⟨pr, hpr⟩ : ∃ pr, pr = V.compP n1 l1 := ⟨_, rfl⟩
          have HPR10 := Lib.hid hpr
          have HPL10 : Hid (pr.2.1.length ≤ maxLen) := Lib.hid (by rw [hpr]; exact compP_len n1 l1)
          rw [← hpr] at hu10 ⊢
          clear hpr
          obtain ⟨kx10, lx10, ex10⟩ := pr
          simp only at hu10 HPL10 ⊢
          obtain ⟨pu10, qu10, rfl⟩ := hu10.slice
          unfold setV
          clear c0 c1 c2 c3
          have HOW10 := Lib.hid (fun c hc => Nat.ne_of_gt (Nat.lt_of_lt_of_le (Array.getElem?_eq_some_iff.1 KP.out).1 (how10 c hc)))
          have HOWP := Lib.hid (fun c hc => Nat.ne_of_gt (Nat.lt_of_lt_of_le (Array.getElem?_eq_some_iff.1 KQ.out).1 (how10 c hc)))
          replace KE := Lib.hid (keep4 hb10 KE.out)
          replace KP := Lib.hid (keep4 hb10 KP.out)
          replace ZP := Lib.hid (ZP.out.below hb10)
          replace KQ := Lib.hid (keep4 hb10 KQ.out)
          replace ZQ := Lib.hid (ZQ.out.below hb10)
          replace HBE := Lib.hid (HBE.out.trans (hb10.mono HBE.out.size))
          have HU10 := Lib.hid hu10
          clear hu10 how10 hb10
          go_wp2_with (first | (refine wl_putRow rfl 25 _ _ rfl XP _ _ KP.out rfl #[.int .i64 kx10, .slice pu10 lx10.length qu10] rfl rfl (by kernel_rfl) (setC_all _ _ _ _) ?_; intro V10 hp10; have KE10 := Lib.hid (hp10.other KE.out (by have := HEP.out; omega)); have KO10 := Lib.hid (hp10.other KQ.out (by have := HPQ.out; omega)); have KH10 := Lib.hid hp10.here; have ZH10 := Lib.hid (hp10.itvs HU10.out HOW10.out); have HBE10 := Lib.hid (hp10.below HBE.out HFP.out); clear hp10; obtain ⟨c0, c1, c2, c3⟩ := cells_two KE10.out) | fail)
          clear KE KP KQ HBE ZP ZQ
          have KE := KE10
          have KQ := KO10
          have KP := KH10
          have ZP := ZH10
          have HBE := HBE10
          clear KE10 KO10 KH10 ZH10 HBE10 HU10 HOW10
          have hee10 : (ex10 != ex10) = false := by simp
          refine (rrComplement_any n1 (.slice p1 l1.length q1) l1 V10 (HM3.out.below HBE.out) (I1.out.below HBE.out) N1.out M1.out).mono ?_
          rintro e v11 ⟨u11, rfl, hu11, how11, hb11⟩
          rw [← HPR10.out] at hu11 ⊢
          simp only at hu11 ⊢
          obtain ⟨pu11, qu11, rfl⟩ := hu11.slice
          unfold setV
          clear c0 c1 c2 c3
          have HOW11 := Lib.hid (fun c hc => Nat.ne_of_gt (Nat.lt_of_lt_of_le (Array.getElem?_eq_some_iff.1 KQ.out).1 (how11 c hc)))
          replace KE := Lib.hid (keep4 hb11 KE.out)
          replace KP := Lib.hid (keep4 hb11 KP.out)
          replace ZP := Lib.hid (ZP.out.below hb11)
          replace KQ := Lib.hid (keep4 hb11 KQ.out)
          replace HBE := Lib.hid (HBE.out.trans (hb11.mono HBE.out.size))
          have HU11 := Lib.hid hu11
          clear hu11 how11 hb11
          go_wp2_with (first | (refine wl_putRow rfl 25 _ _ rfl XQ _ _ KQ.out rfl #[.int .i64 kx10, .slice pu11 lx10.length qu11] rfl rfl (by kernel_rfl) (setC_all _ _ _ _) ?_; intro V11 hp11; have KE11 := Lib.hid (hp11.other KE.out (by have := HEQ.out; omega)); have KO11 := Lib.hid (hp11.other KP.out (by have := HPQ.out; omega)); have KH11 := Lib.hid hp11.here; have ZH11 := Lib.hid (hp11.itvs HU11.out HOW11.out); have HBE11 := Lib.hid (hp11.below HBE.out HFQ.out); have ZO11 := Lib.hid (hp11.itvs ZP.out HOWP.out); clear hp11; obtain ⟨c0, c1, c2, c3⟩ := cells_two KE11.out; obtain ⟨x0, x1⟩ := set_cells KO11.out; obtain ⟨y0, y1⟩ := set_cells KH11.out) | fail)
          clear KE KP KQ HBE ZP
          have KE := KE11
          have KP := KO11
          have KQ := KH11
          have ZQ := ZH11
          have HBE := HBE11
          have ZP := ZO11
          clear KE11 KO11 KH11 ZH11 HBE11 HU11 HOW11 ZO11 HOWP
          refine (rgSubset_any n1 n2 (.slice p1 l1.length q1) (.slice p2 l2.length q2) l1 l2 V11 (HM3.out.below HBE.out) (I1.out.below HBE.out) (I2.out.below HBE.out) N1.out N2.out M1.out M2.out).mono ?_
          rintro e v12 ⟨rfl, hb12⟩
          obtain ⟨ps, hps⟩ : ∃ ps, ps = V.subP n1 l1 n2 l2 := ⟨_, rfl⟩
          have HPS := Lib.hid hps
          rw [← hps]
          clear hps
          obtain ⟨bs, es⟩ := ps
          simp only
          clear c0 c1 c2 c3 x0 x1 y0 y1
          replace KE := Lib.hid (keep4 hb12 KE.out)
          replace KP := Lib.hid (keep4 hb12 KP.out)
          replace ZP := Lib.hid (ZP.out.below hb12)
          replace KQ := Lib.hid (keep4 hb12 KQ.out)
          replace ZQ := Lib.hid (ZQ.out.below hb12)
          replace HBE := Lib.hid (HBE.out.trans (hb12.mono HBE.out.size))
          clear hb12
          obtain ⟨c0, c1, c2, c3⟩ := cells_two KE.out
          obtain ⟨x0, x1⟩ := set_cells KP.out
          obtain ⟨y0, y1⟩ := set_cells KQ.out
          go_wp2_with fail
          have hbb : (bs != bs) = false := by simp
          have hes : (es != es) = false := by simp
          refine (rrSubset_any n1 n2 (.slice p1 l1.length q1) (.slice p2 l2.length q2) l1 l2 v12 (HM3.out.below HBE.out) (I1.out.below HBE.out) (I2.out.below HBE.out) N1.out N2.out M1.out M2.out).mono ?_
          rintro e v13 ⟨rfl, hb13⟩
          rw [← HPS.out]
          simp only
          clear c0 c1 c2 c3 x0 x1 y0 y1
          replace KE := Lib.hid (keep4 hb13 KE.out)
          replace KP := Lib.hid (keep4 hb13 KP.out)
          replace ZP := Lib.hid (ZP.out.below hb13)
          replace KQ := Lib.hid (keep4 hb13 KQ.out)
          replace ZQ := Lib.hid (ZQ.out.below hb13)
          replace HBE := Lib.hid (HBE.out.trans (hb13.mono HBE.out.size))
          clear hb13
          obtain ⟨c0, c1, c2, c3⟩ := cells_two KE.out
          obtain ⟨x0, x1⟩ := set_cells KP.out
          obtain ⟨y0, y1⟩ := set_cells KQ.out
          go_wp2_with fail
          refine (rrSame_any kx10 kx10 (.slice pu10 lx10.length qu10) (.slice pu11 lx10.length qu11) lx10 lx10 v13 ZP.out ZQ.out HPL10.out HPL10.out).mono ?_
          rintro e v14 ⟨rfl, hb14⟩
          rw [sameP_self]
          clear c0 c1 c2 c3 x0 x1 y0 y1
          replace KE := Lib.hid (keep4 hb14 KE.out)
          replace KP := Lib.hid (keep4 hb14 KP.out)
          replace ZP := Lib.hid (ZP.out.below hb14)
          replace KQ := Lib.hid (keep4 hb14 KQ.out)
          replace ZQ := Lib.hid (ZQ.out.below hb14)
          replace HBE := Lib.hid (HBE.out.trans (hb14.mono HBE.out.size))
          clear hb14
          go_wp2_with fail
          go_roundw
          case rel => exact ⟨k + 1, by omega, by go_num, HBE.out⟩
          case measure => simp [intOf]; omega
        · obtain rfl : k = 3 := by omega
          clear hbx
          go_wp2_with fail
          refine (awake07_any wr (HM3.out.below HBX.out)).mono ?_
          rintro e w4 ⟨rfl, hb4⟩
          have HB4 := Lib.hid (HBW.out.trans (hb4.mono HBW.out.size))
          clear hb4
          go_wp2
          go_ret
          exact ⟨rfl, HB4.out⟩
end Go.Proofs.YtolojkkhmamddaaGreatDoor

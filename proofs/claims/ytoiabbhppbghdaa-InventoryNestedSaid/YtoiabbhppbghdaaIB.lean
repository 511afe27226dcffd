/-
  Walk: the law InventoryNested.
-/
import Derived.Test.YtoiabbhppbghdaaIA
import Derived.Test.YtoiabbhppbghdaaJZ
import Derived.Test.YtoiabbhppbghdaaJW
import Derived.Test.YtoiabbhppbghdaaJI
import Derived.Test.YtoiabbhppbghdaaTN
namespace Go.Proofs.Ytoiabbhppbghdaa
open Go.RowKit

/-- at the operation: an inventory loaded -/
theorem wl_loadI {ops : Array Oper} {rest : List Oper} {o : Oper} {a : Act} {w : World} {Q : Exit → Act → World → Prop} (hgd : o.guard = none) (x : Operand) (ho : o.op = .load 41 x)
    (g : Nat) (hx : a.eval x = .pointer (some ⟨g, 0, none⟩)) (cs : Array Value) (hcs : cs.size = 34) (hgr : w.heap[g]? = some (.cells cs 41 (0, 0)))
    (h : wpList Try.prog ops Q rest (a.put o.dst (.agg cs)) w) : wpList Try.prog ops Q (o :: rest) a w :=
  wpList_load_row hgd _ x ho g hx _ cs (0, 0) _ hgr Try.underlying41 rfl (by rw [invInfo, hcs]) h

set_option maxRecDepth 100000 in
set_option maxHeartbeats 3200000 in
theorem nested_any (a : Option Addr) (m cap : Nat) (w : World) (hmx : MaxOk w) (ht : Nums w a m) :
    Calls Try.prog 4 #[.slice a m cap] w fun e w' => e = .returned (.bool true) ∧ Below w.heap.size w w' := by
  have HM := Lib.hid hmx
  have HT := Lib.hid ht
  clear hmx ht
  have hb0 : Below w.heap.size w (w.alloc (.cells #[.slice a m cap, .int .i64 0] 44)) := (Below.refl _ w).alloc (Nat.le_refl _) _
  have HTP : Hid (Tape (w.alloc (.cells #[.slice a m cap, .int .i64 0] 44)) w.heap.size 0) := Lib.hid (Tape.made HT.out hb0 (Nat.le_refl _) (by rw [World.cell?_alloc_new]; rfl) (by rw [World.cell?_alloc_new]; rfl) (by rw [frozen_alloc, if_pos rfl]))
  have HB0 := Lib.hid hb0
  have hz0 : w.heap.size < (w.alloc (.cells #[.slice a m cap, .int .i64 0] 44)).heap.size := by simp
  clear hb0
  go_enter Try.func4, Try.ntmps4
  go_wp2_with fail
  generalize w.alloc (.cells #[.slice a m cap, .int .i64 0] 44) = W0 at *
  refine (made_any w.heap.size 0 _ HTP.out (by omega)).mono ?_
  rintro e w1 ⟨time, v, l, hmade, rfl, ht1, hg1⟩
  have hb1 : Below w.heap.size w w1 := HB0.out.trans (grown_below hg1 (Nat.le_refl _) (by omega))
  have hz1 : W0.heap.size ≤ w1.heap.size := hg1.size
  have hrow := hmade.row
  have hl8 := hmade.len
  have HOK := Lib.hid hmade.ok
  have HVAL := Lib.hid hmade.valid
  obtain ⟨va, vc, hve, hjunk⟩ := hrow.comps
  subst hve
  clear hjunk
  have HIN : Hid ((Try.prog.info? 41).map (·.size) = some (icells (dig1 1) time (.slice va l.length vc)).size) := Lib.hid (by rw [invInfo, icells_size rfl])
  have HS : Hid ((icells zero32 0 (.slice none 0 0)).size = (icells (dig1 1) time (.slice va l.length vc)).size) := Lib.hid (by rw [icells_size rfl, icells_size rfl])
  have HO := Lib.hid (icells_one (d := dig1 1) (time := time) hrow.comps.one)
  have HSZ := Lib.hid (icells_size (d := dig1 1) rfl time (.slice va l.length vc))
  have h33 := icells_33 (d := dig1 1) rfl time (.slice va l.length vc)
  have hR0 : (w1.alloc (.cells (icells zero32 0 (.slice none 0 0)) 41)).heap[w1.heap.size]? = some (.cells (icells zero32 0 (.slice none 0 0)) 41 (0, 0)) := heap_alloc_new w1 _
  have hbe : Below w1.heap.size w1 ((w1.alloc (.cells (icells zero32 0 (.slice none 0 0)) 41)).setRow w1.heap.size (icells (dig1 1) time (.slice va l.length vc))) :=
    ((Below.refl _ w1).alloc (Nat.le_refl _) _).trans (grown_below (setRow_grown _ _ _) (Nat.le_refl _) (by simp))
  have HW : Hid (∃ W3, W3 = (w1.alloc (.cells (icells zero32 0 (.slice none 0 0)) 41)).setRow w1.heap.size (icells (dig1 1) time (.slice va l.length vc)) ∧
      W3.heap[w1.heap.size]? = some (.cells (icells (dig1 1) time (.slice va l.length vc)) 41 (0, 0)) ∧ Comps W3 (.slice va l.length vc) l ∧ Below w.heap.size w W3 ∧ w1.heap.size < W3.heap.size) := Lib.hid (by
    refine ⟨_, rfl, ?_, ?_, ?_, ?_⟩
    · exact setRow_heap _ w1.heap.size _ _ _ _ hR0
    · exact hrow.comps.below hbe
    · exact hb1.trans (hbe.mono hb1.size)
    · simp)
  have HR0 := Lib.hid hR0
  clear hmade hrow hR0 ht1 hg1 hbe
  go_wp2_with (first | (rw [zero_inv]; refine wpList_store_row rfl _ _ _ rfl w1.heap.size (icells (dig1 1) time (.slice va l.length vc)) ?hx ?hy 41 _ HR0.out HIN.out HS.out HO.out ?hr; (case hx => rfl); (case hy => rfl); obtain ⟨W3, hW3, hG3, hC3, hB3, hX3⟩ := HW.out; rw [← hW3]; clear hW3 HW HR0; have HG3 := Lib.hid hG3; have HC3 := Lib.hid hC3; have HB3 := Lib.hid hB3; clear hG3 hC3 hB3) | (refine wl_loadI rfl _ rfl w1.heap.size rfl (icells (dig1 1) time (.slice va l.length vc)) HSZ.out HG3.out ?_) | fail)
  generalize w1.heap.size = X at *
  have HMV : Hid (MaxOk W3) := Lib.hid (HM.out.below HB3.out)
  have hz3 : w.heap.size ≤ W3.heap.size := HB3.out.size
  refine (kids_any (dig1 1) time (.slice va l.length vc) l (-1) _ rfl HC3.out (by omega)).mono ?_
  rintro e w4 ⟨kv, rfl, hir, hb4⟩
  obtain ⟨ka, kc, rfl⟩ := hir.slice
  have HB4 := Lib.hid hb4
  have HU0 : Hid ((V.kids l (-1)).length = V.under l 0) := Lib.hid (V.under_first HOK.out).symm
  have hu8 := V.under_le l 0
  clear hir hb4 hb1 hz1 hz0
  rw [HU0.out]
  go_wp2
  go_loopw [4, 5] (fun nv iv wr => ∃ k : Nat, k ≤ l.length ∧ iv = .int .i64 k ∧ nv = .int .i64 (V.under l k : Nat) ∧ Below W3.heap.size W3 wr) (fun _ iv _ => l.length - (intOf iv).toNat)
  case atStart => exact ⟨0, Nat.zero_le _, rfl, rfl, HB4.out⟩
  case round =>
    obtain ⟨k, hk, rfl, rfl, hb⟩ := hrel
    have HB := Lib.hid hb
    have HG := Lib.hid ((hb.block X hX3).trans HG3.out)
    have HC := Lib.hid (HC3.out.below hb)
    have hx33 : wr.cell? ⟨X, 33, none⟩ = some (.slice va l.length vc) := by rw [cell_of_row wr X 33 _ _ _ HG.out]; exact h33
    have hXw : X < wr.heap.size := Nat.lt_of_lt_of_le hX3 hb.size
    have HWX := Lib.hid (show W3.heap.size ≤ wr.heap.size from hb.size)
    clear hb
    by_cases hlt : k < l.length
    · go_wp2_with (first | (refine wl_loadI rfl _ rfl X rfl (icells (dig1 1) time (.slice va l.length vc)) HSZ.out HG.out ?_) | fail)
      refine (ipath_any (dig1 1) time (.slice va l.length vc) l k _ (HMV.out.below HB.out) rfl (by decide) HC.out (by omega)).mono ?_
      rintro e w5 ⟨pv, rfl, hz, hb5⟩
      rw [if_pos ⟨HVAL.out, by omega, by omega⟩] at hz
      have HPA : Hid (∀ j, j < (V.anc l k).reverse.length → ∃ q, ∃ hq : q < l.length, (V.anc l k).reverse[j]? = some (q : Int) ∧ (j + 1 = (V.anc l k).reverse.length → q = k) ∧ (j = 0 → l[q].par = -1) ∧ (0 < j → (V.anc l k).reverse[j - 1]? = some l[q].par)) := Lib.hid (fun j hj => V.path_at HOK.out hlt hj)
      have hpos := V.path_pos HOK.out hlt
      have hpl : (V.anc l k).reverse.length ≤ l.length := by rw [List.length_reverse]; exact V.anc_len HOK.out k (by omega)
      generalize (V.anc l k).reverse = p at *
      obtain ⟨pa, pc, rfl, hcs⟩ := hz
      have HB5 := Lib.hid (HB.out.trans (hb5.mono HB.out.size))
      have HG5 := Lib.hid ((hb5.block X hXw).trans HG.out)
      have HC5 := Lib.hid (HC.out.below hb5)
      have hx335 : w5.cell? ⟨X, 33, none⟩ = some (.slice va l.length vc) := by rw [cell_of_row w5 X 33 _ _ _ HG5.out]; exact h33
      obtain ⟨pb, po, rfl, hpb, -⟩ := hcs 0 hpos
      have HCS : Hid (∀ j (h : j < p.length), w5.cell? ⟨pb, po + j, none⟩ = some (.int .i64 p[j])) := Lib.hid (fun j hj => by
        obtain ⟨b', o', e', _, h⟩ := hcs j hj
        cases e'; exact h)
      have HRD : Hid (∀ j, j < p.length → ∃ q r, w5.cell? ⟨pb, po + j, none⟩ = some (.int .i64 (q : Nat)) ∧ q < l.length ∧ (∃ b off, va = some ⟨b, off, none⟩ ∧ b < w5.heap.size ∧ w5.cell? ⟨b, off + q * 36, none⟩ = some (.int .i64 r)) ∧ (j + 1 = p.length → q = k) ∧ (j = 0 → r = -1) ∧ (0 < j → w5.cell? ⟨pb, po + (j - 1), none⟩ = some (.int .i64 r))) := Lib.hid (by
        intro j hj
        obtain ⟨q, hq, h1, h2, h3, h4⟩ := HPA.out j hj
        obtain ⟨_, b, off, e', hbl, hr⟩ := HC5.out.at q hq
        refine ⟨q, l[q].par, ?_, hq, ⟨b, off, e', hbl, hr 0 _ rfl⟩, h2, h3, fun h0 => ?_⟩
        · rw [HCS.out j hj, (List.getElem?_eq_some_iff.1 h1).2]
        · obtain ⟨h5, h6⟩ := List.getElem?_eq_some_iff.1 (h4 h0)
          rw [HCS.out (j - 1) h5, h6])
      obtain ⟨m1, hm1⟩ : ∃ m1, p.length = m1 + 1 := ⟨p.length - 1, by omega⟩
      obtain ⟨q1, r1, hc1, hq1, ⟨b1, o1, hva, hb1l, hr1⟩, hk1, _, _⟩ := HRD.out m1 (by omega)
      obtain ⟨q0, r0, hc0, hq0, ⟨b0, o0, hva0, hb0l, hr0⟩, _, hk0, _⟩ := HRD.out 0 hpos
      subst hva
      cases hva0
      obtain rfl := hk1 (by omega)
      obtain rfl := hk0 rfl
      rw [Nat.add_zero] at hc0
      have hz5 : wr.heap.size ≤ w5.heap.size := hb5.size
      clear hcs HPA HCS
      generalize p.length = pl at *
      have hw1 : IntKind.i64.wrap ((pl : Int) - 1) = (m1 : Int) := by have hx : m1 < 8 := (by omega); rw [IntKind.wrap_i64]; omega
      have hn0 : ((pl : Int) == 0) = false := by rw [beq_eq_false_iff_ne]; omega
      have hi1 : (0 : Int) ≤ (m1 : Int) := by omega
      have hi2 : (m1 : Int) < (pl : Int) := by omega
      have hi3 : (0 : Int) ≤ (q0 : Int) := by omega
      have hi4 : (q0 : Int) < (l.length : Int) := by omega
      have hi5 : (0 : Int) < (pl : Int) := by omega
      have HML := Lib.hid hm1
      have HB56 := Lib.hid hb5
      clear hb5 hm1 hk1 hk0
      go_wp2
      go_quiet (fail)
      rename_i nq
      clear hc1 hq1 hr1 hc0 hq0 hr0 hw1 hn0 hi1 hi2 hi3 hi4 hi5
      go_wp2
      have hbq : Below w5.heap.size w5 (w5.drewN nq) := below_drewN (Below.refl _ w5) nq
      have HBQ := Lib.hid hbq
      clear hbq
      generalize w5.drewN nq = w6 at *
      go_loopw [7] (fun jv wr => ∃ j : Nat, 1 ≤ j ∧ j ≤ pl ∧ jv = .int .i64 j ∧ Below w5.heap.size w5 wr) (fun jv _ => pl - (intOf jv).toNat)
      case atStart => exact ⟨1, Nat.le_refl _, hpos, rfl, HBQ.out⟩
      case round =>
        obtain ⟨j, hj1, hj, rfl, hb6⟩ := hrel
        have HB6 := Lib.hid hb6
        have hx336 := (hb6.cell (p := ⟨X, 33, none⟩) (show X < w5.heap.size by omega)).trans hx335
        clear hb6
        by_cases hjl : j < pl
        · obtain ⟨q2, r2, hc2, hq2, ⟨b2, o2, hva2, hb2l, hr2⟩, _, _, hc3⟩ := HRD.out j hjl
          cases hva2
          have hd2 := (HB6.out.cell (p := ⟨pb, po + j, none⟩) hpb).trans hc2
          have hd3 := (HB6.out.cell (p := ⟨pb, po + (j - 1), none⟩) hpb).trans (hc3 (by omega))
          have hd4 := (HB6.out.cell (p := ⟨b1, o1 + q2 * 36, none⟩) hb2l).trans hr2
          obtain ⟨j1, hj1'⟩ : ∃ j1, j = j1 + 1 := ⟨j - 1, by omega⟩
          have e1 : j - 1 = j1 := by omega
          rw [e1] at hd3
          have hw1 : IntKind.i64.wrap ((j : Int) - 1) = (j1 : Int) := by have hx : j1 < 8 := (by omega); rw [IntKind.wrap_i64]; omega
          have hi1 : (0 : Int) ≤ (j1 : Int) := by omega
          have hi2 : (j1 : Int) < (pl : Int) := by omega
          have hi3 : (0 : Int) ≤ (q2 : Int) := by omega
          have hi4 : (q2 : Int) < (l.length : Int) := by omega
          have hi5 : (0 : Int) ≤ (j : Int) := by omega
          have hi6 : (j : Int) < (pl : Int) := by omega
          clear hc2 hr2 hc3 hj1' e1
          go_wp2
          go_quiet (fail)
          rename_i nq
          clear hd2 hd3 hd4 hw1 hi1 hi2 hi3 hi4 hi5 hi6 hx336
          have HBN := Lib.hid (below_drewN HB6.out nq)
          generalize wr.drewN nq = w7 at *
          go_wp2
          go_roundw
          case rel => exact ⟨j + 1, by omega, by omega, by go_num, HBN.out⟩
          case measure => simp [intOf]; omega
        · have hbe : Below W3.heap.size W3 wr := HB5.out.trans (HB6.out.mono HB5.out.size)
          have HBE := Lib.hid hbe
          have HGE := Lib.hid ((HB6.out.block X (by omega)).trans HG5.out)
          have HCE := Lib.hid (HC5.out.below HB6.out)
          have hst := V.under_step l (q1 : Int)
          have hul := V.under_le l ((q1 : Int) + 1)
          clear hbe
          go_wp2_with (first | (refine wl_loadI rfl _ rfl X rfl (icells (dig1 1) time (.slice (some ⟨b1, o1, none⟩) l.length vc)) HSZ.out HGE.out ?_) | fail)
          refine (kids_any (dig1 1) time (.slice (some ⟨b1, o1, none⟩) l.length vc) l q1 _ rfl HCE.out (by omega)).mono ?_
          rintro e w8 ⟨kv, rfl, hir, hb8⟩
          obtain ⟨ka8, kc8, rfl⟩ := hir.slice
          have HB8 := Lib.hid (HBE.out.trans (hb8.mono HBE.out.size))
          clear hir hb8
          generalize (V.kids l q1).length = kn at *
          have HUN : Hid ((V.under l q1 : Int) + (kn : Int) = (V.under l ((q1 : Int) + 1) : Nat)) := Lib.hid (by omega)
          generalize V.under l q1 = un at *
          go_wp2
          go_roundw
          case rel => exact ⟨q1 + 1, by omega, by go_num, by rw [show ((q1 + 1 : Nat) : Int) = (q1 : Int) + 1 by omega, hst]; rw [hst] at hul; go_num, HB8.out⟩
          case measure => simp [intOf]; omega
    · obtain rfl : k = l.length := by omega
      have HUA := Lib.hid (V.under_all HOK.out)
      go_wp2_with fail
      refine (awake19_any _ (HMV.out.below HB.out)).mono ?_
      rintro e w5 ⟨rfl, hb5⟩
      have hx335 := (hb5.cell (p := ⟨X, 33, none⟩) (show X < wr.heap.size by omega)).trans hx33
      have HB5 := Lib.hid (HB.out.trans (hb5.mono HB.out.size))
      clear hb5
      rw [HUA.out]
      go_wp2
      go_ret
      exact ⟨ret_bool rfl, HB3.out.trans (HB5.out.mono HB3.out.size)⟩
end Go.Proofs.Ytoiabbhppbghdaa

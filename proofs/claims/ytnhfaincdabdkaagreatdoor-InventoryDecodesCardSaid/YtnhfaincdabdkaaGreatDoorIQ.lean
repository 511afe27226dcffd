/-
  Walk: the law InventoryDecodes.
  Arguments read: slices of numbers and of strings.
  Arguments read: slices of bytes.
  Pairs of inventories: loaded, stored, built.
-/
import Derived.Test.YtnhfaincdabdkaaGreatDoorLP
import Derived.Test.YtnhfaincdabdkaaGreatDoorLQ
import Derived.Test.YtnhfaincdabdkaaGreatDoorDM
import Derived.Test.YtnhfaincdabdkaaGreatDoorIH
import Derived.Test.YtnhfaincdabdkaaGreatDoorJM
import Derived.Test.YtnhfaincdabdkaaGreatDoorTN
import Derived.Test.YtnhfaincdabdkaaGreatDoorLB
import Derived.Test.YtnhfaincdabdkaaGreatDoorIO
import Derived.ProofKit
import Derived.SliceStrings
import Derived.OpenShut
namespace Go.Proofs.YtnhfaincdabdkaaGreatDoor
open Go.RowKit

theorem Buf.bytesIn {N : Nat} {v : Value} {l : V.Bs} {W0 w : World} (h : Buf N v l W0 w) : BytesIn w v l := by
  rcases h.1.2 with ⟨rfl, hn⟩ | ⟨g, cap, cur, fz, rfl, hb, hg, _, hnc, _⟩
  · have := List.eq_nil_of_length_eq_zero hn
    subst this
    exact ⟨none, 0, rfl, Nat.le_refl _, fun j hj => by simp at hj⟩
  · by_cases h0 : 0 < l.length
    · obtain ⟨g', cap', e, _, hlt, hat⟩ := h.at h0
      cases e
      exact ⟨_, _, rfl, hnc, fun j hj => ⟨g, 0, rfl, hlt, by rw [Nat.zero_add]; exact hat j hj⟩⟩
    · exact ⟨_, _, rfl, hnc, fun j hj => by omega⟩
theorem V.doc_len {ls : List (List V.Bs)} (h : V.DocOk ls) : (V.doc ls).length ≤ 262144 := by
  rw [← V.docTo_all, V.docTo_len (fun l hl => (h.line l hl).1) _ (Nat.le_refl _)]; exact h.size
theorem Nums.below2 {w w' : World} {a : Option Addr} {m : Nat} (h : Nums w a m) (hb : Below w.heap.size w w') : Nums w' a m := by
  obtain ⟨h1, h2⟩ := h
  refine ⟨h1, fun j hj => ?_⟩
  obtain ⟨b, off, z, e, hlt, hcz, hz⟩ := h2 j hj
  exact ⟨b, off, z, e, Nat.lt_of_lt_of_le hlt hb.size, (hb.cell (p := ⟨b, off + j, none⟩) hlt).trans hcz, hz⟩

set_option maxRecDepth 100000 in
set_option maxHeartbeats 12800000 in
theorem inventoryDecodes_any (vb : Value) (bs : V.Bs) (x0 : IV) (a : Option Addr) (m cap : Nat) (w : World) (hmx : MaxOk w) (hpw : PowOk w) (hvb : BytesIn w vb bs) (hbl : bs.length ≤ maxLen) (hd : x0.d.length = 32) (hw : ∀ n ∈ x0.d, (Lit.int .u8 n).wf = true) (hc : Comps w x0.v x0.l) (ht : Nums w a m) :
    Calls Tryz.prog 3 #[vb, .agg (icells x0.d x0.t x0.v), .slice a m cap] w fun e w' => e = .returned (.bool true) ∧ Below w.heap.size w w' := by
  obtain ⟨ba, bc, hve, hjunk⟩ := hvb
  have HVB0 := Lib.hid (show BytesIn w vb bs from ⟨ba, bc, hve, hjunk⟩)
  subst hve
  clear hjunk
  have HM := Lib.hid hmx
  have HP := Lib.hid hpw
  have HBL := Lib.hid hbl
  have H1 := Lib.hid (And.intro hd (And.intro hw hc))
  have hb0 : Below w.heap.size w (w.alloc (.cells (icells x0.d x0.t x0.v) 27)) := (Below.refl w.heap.size w).alloc (Nat.le_refl _) _
  have HB0 := Lib.hid hb0
  have HG0 : Hid ((w.alloc (.cells (icells x0.d x0.t x0.v) 27)).heap[w.heap.size]? = some (.cells (icells x0.d x0.t x0.v) 27 (0, 0))) := Lib.hid (heap_alloc_new w _)
  have HT0 := Lib.hid (ht.below2 hb0)
  have HVB := Lib.hid (HVB0.out.below hb0)
  have HC0 := Lib.hid (hc.below hb0)
  have hz0 : w.heap.size < (w.alloc (.cells (icells x0.d x0.t x0.v) 27)).heap.size := by simp
  clear hmx hpw ht hd hw hc hb0 HVB0 hbl
  by_cases hbig : 100000 < bs.length
  · have hb' : (100000 : Int) < (bs.length : Int) := by omega
    go_enter Tryz.func3, Tryz.ntmps3
    go_wp2
    go_ret
    exact ⟨ret_bool rfl, HB0.out⟩
  have hb' : ¬ (100000 : Int) < (bs.length : Int) := by omega
  go_enter Tryz.func3, Tryz.ntmps3
  go_wp2_with fail
  generalize w.alloc (.cells (icells x0.d x0.t x0.v) 27) = w0 at *
  refine (invDecode_any (.slice ba bs.length bc) bs w0 (HM.out.below HB0.out) HVB.out HBL.out).mono ?_
  rintro e w1 ⟨v1, rfl, hc1, hb1⟩
  obtain ⟨hd1, hdw1, hl1⟩ := V.decI_facts bs
  obtain ⟨⟨d1, t1, l1, c1⟩, hD⟩ : ∃ D, V.decI bs = D := ⟨_, rfl⟩
  rw [hD] at hc1 hd1 hdw1 hl1 ⊢
  simp only at hc1 hd1 hdw1 hl1 ⊢
  have HDD := Lib.hid hD
  have HD1 := Lib.hid (And.intro hd1 hdw1)
  have hv1 : v1.oneCell' = true := by obtain ⟨_, _, e, _⟩ := hc1; rw [e]; rfl
  have hb2 : Below w1.heap.size w1 (w1.alloc (.cells (icells d1 t1 v1) 27)) := (Below.refl _ w1).alloc (Nat.le_refl _) _
  have hb02 := hb1.trans (hb2.mono hb1.size)
  have HG2 : Hid ((w1.alloc (.cells (icells d1 t1 v1) 27)).heap[w1.heap.size]? = some (.cells (icells d1 t1 v1) 27 (0, 0))) := Lib.hid (heap_alloc_new w1 _)
  have HG02 := Lib.hid ((hb02.block _ hz0).trans HG0.out)
  have HC2 := Lib.hid (hc1.below hb2)
  have HB2 := Lib.hid (HB0.out.trans (hb02.mono HB0.out.size))
  have HVB2 := Lib.hid (HVB.out.below hb02)
  have HT2 := Lib.hid (HT0.out.below2 hb02)
  have HC02 := Lib.hid (HC0.out.below hb02)
  have hz2 : w1.heap.size < (w1.alloc (.cells (icells d1 t1 v1) 27)).heap.size := by simp
  have hz02 : w.heap.size < (w1.alloc (.cells (icells d1 t1 v1) 27)).heap.size := Nat.lt_of_lt_of_le hz0 hb02.size
  clear hD hd1 hdw1 hb1 hb2 hb02 hc1 HG0 HB0 HVB HT0 HC0 hz0
  go_wp2_with (first | (refine wl_storeIN rfl _ _ rfl _ _ rfl d1 t1 v1 HD1.out.1 hv1 rfl rfl ?_; clear hv1; generalize w1.alloc (.cells (icells d1 t1 v1) 27) = w2 at *; generalize w1.heap.size = X1 at *) | fail)
  refine (rinvDecode_any (.slice ba bs.length bc) bs w2 (HM.out.below HB2.out) HVB2.out HBL.out).mono ?_
  rintro e w3 ⟨v2, rfl, hc3, hb3⟩
  rw [HDD.out] at hc3 ⊢
  simp only at hc3 ⊢
  have hv2 : v2.oneCell' = true := by obtain ⟨_, _, e, _⟩ := hc3; rw [e]; rfl
  have hb4 : Below w3.heap.size w3 (w3.alloc (.cells (icells d1 t1 v2) 27)) := (Below.refl _ w3).alloc (Nat.le_refl _) _
  have hb24 := hb3.trans (hb4.mono hb3.size)
  have HG4 : Hid ((w3.alloc (.cells (icells d1 t1 v2) 27)).heap[w3.heap.size]? = some (.cells (icells d1 t1 v2) 27 (0, 0))) := Lib.hid (heap_alloc_new w3 _)
  have HG24 := Lib.hid ((hb24.block _ hz2).trans HG2.out)
  have HG04 := Lib.hid ((hb24.block _ hz02).trans HG02.out)
  have HC4 := Lib.hid (hc3.below hb4)
  have HC24 := Lib.hid (HC2.out.below hb24)
  have HB4 := Lib.hid (HB2.out.trans (hb24.mono HB2.out.size))
  have HT4 := Lib.hid (HT2.out.below2 hb24)
  have HC04 := Lib.hid (HC02.out.below hb24)
  have hz04 := Nat.lt_of_lt_of_le hz02 hb24.size
  clear hb3 hb4 hb24 hc3 HG2 HG02 HC2 HB2 HVB2 HT2 HC02 hz2 hz02
  go_wp2_with (first | (refine wl_storeIN rfl _ _ rfl _ _ rfl d1 t1 v2 HD1.out.1 hv2 rfl rfl ?_; clear hv2; generalize w3.alloc (.cells (icells d1 t1 v2) 27) = w4 at *; generalize w3.heap.size = X2 at *) | (refine wg_loadI rfl _ rfl X1 rfl (icells d1 t1 v1) (icells_size HD1.out.1 _ _) HG24.out ?_) | (refine wg_loadI rfl _ rfl X2 rfl (icells d1 t1 v2) (icells_size HD1.out.1 _ _) HG4.out ?_) | fail)
  refine (same_true d1 t1 v1 v2 l1 w4 HD1.out.1 HD1.out.2 HC24.out HC4.out (by omega)).mono ?_
  rintro e w5 ⟨rfl, hb5⟩
  have HG5 := Lib.hid ((hb5.block _ hz04).trans HG04.out)
  have HB5 := Lib.hid (HB4.out.trans (hb5.mono HB4.out.size))
  have HT5 := Lib.hid (HT4.out.below2 hb5)
  have HC5 := Lib.hid (HC04.out.below hb5)
  clear hb5 HG4 HG24 HG04 HC4 HC24 HB4 HT4 HC04 hz04 hl1 HDD HD1
  go_wp2_with (first | (refine wl_loadR rfl _ rfl w.heap.size 0 rfl x0 H1.out.1 (inv_rangeAll HG5.out) ?_) | fail)
  refine (inventories_any x0 a m cap w5 H1.out.1 H1.out.2.1 HC5.out HT5.out).mono ?_
  rintro e w6 ⟨v6, xs, rfl, hiv, hx3, hb6⟩
  have HIV := Lib.hid hiv
  have HB6 := Lib.hid (HB5.out.trans (hb6.mono HB5.out.size))
  obtain ⟨va, vc, hve, hjunk⟩ := hiv
  subst hve
  clear hjunk hb6 HT5 HG5 HB5 HC5
  go_wp2_with fail
  go_loopw [43] (fun jv wr => ∃ j : Nat, j ≤ xs.length ∧ jv = .int .i64 j ∧ Below w6.heap.size w6 wr) (fun jv _ => xs.length - (intOf jv).toNat)
  case atStart => exact ⟨0, Nat.zero_le _, rfl, Below.refl _ _⟩
  case round =>
    obtain ⟨j, hj, rfl, hbr⟩ := hrel
    have HBR := Lib.hid hbr
    have HBW := Lib.hid (HB6.out.trans (hbr.mono HB6.out.size))
    clear hbr
    by_cases hlt : j < xs.length
    · obtain ⟨a', cap', e', hat⟩ := HIV.out
      cases e'
      obtain ⟨hok, g, off, rfl, hgl, hr⟩ := hat j hlt
      have HX := Lib.hid (hok.below HBR.out)
      have HR := Lib.hid (rangeAt_below hr HBR.out)
      have hj1 : (0 : Int) ≤ (j : Int) := by omega
      have hj2 : (j : Int) < (xs.length : Int) := by omega
      have wr1 : IntKind.i64.wrap ((j : Int) + 1) = (j : Int) + 1 := IntWalk.i64_in _ (by omega)
      have hox := hok.comps.one
      clear hok hr hat
      generalize xs[j] = x at *
      have hb2 : Below wr.heap.size wr (wr.alloc (.cells (icells x.d x.t x.v) 27)) := (Below.refl _ wr).alloc (Nat.le_refl _) _
      have HX2 := Lib.hid (HX.out.below hb2)
      have HG2 : Hid ((wr.alloc (.cells (icells x.d x.t x.v) 27)).heap[wr.heap.size]? = some (.cells (icells x.d x.t x.v) 27 (0, 0))) := Lib.hid (heap_alloc_new wr _)
      have HB2 := Lib.hid (HBR.out.trans (hb2.mono HBR.out.size))
      have hz2 : wr.heap.size < (wr.alloc (.cells (icells x.d x.t x.v) 27)).heap.size := by simp
      clear hb2
      go_wp2_with (first | (refine wl_loadR rfl _ rfl g (off + j * 34) rfl x HX.out.hd HR.out ?_) | (refine wl_storeI rfl _ _ rfl _ rfl x HX.out.hd hox rfl rfl ?_; clear hox; generalize hww : wr.alloc (.cells (icells x.d x.t x.v) 27) = w2 at *; clear hww; generalize wr.heap.size = X at *) | (refine wl_loadR rfl _ rfl X 0 rfl x HX2.out.hd (inv_rangeAll HG2.out) ?_) | fail)
      have HBW2 := Lib.hid (HB6.out.trans (HB2.out.mono HB6.out.size))
      refine (invEncode_any x.d x.t x.v x.l w2 (HM.out.below HBW2.out) (HP.out.below HBW2.out) HX2.out.hd HX2.out.hdw HX2.out.comps (by have := HX2.out.len; unfold maxLen; omega)).mono ?_
      intro e w3 he
      have hb3 := he.2.2
      have HX3 := Lib.hid (HX2.out.below hb3)
      have HG3 := Lib.hid ((hb3.block X hz2).trans HG2.out)
      have hz3 : X < w3.heap.size := Nat.lt_of_lt_of_le hz2 hb3.size
      have HBW3 := Lib.hid (HBW2.out.trans (hb3.mono HBW2.out.size))
      have HB3 := Lib.hid (HB2.out.trans (hb3.mono HB2.out.size))
      clear hb3 HX2 HG2 HBW2 HB2 hz2
      rcases hok : V.invOk x.d x.t x.l with _ | _
      · have hq := he.2.1 hok
        subst hq
        clear he hok
        go_wp2_with fail
        go_roundw
        case rel => exact ⟨j + 1, by omega, by go_num, HB3.out⟩
        case measure => simp [intOf]; omega
      · obtain ⟨u, N, W0, rfl, hbuf⟩ := he.1 hok
        have HDO : Hid (V.DocOk (V.invLines x.d x.t x.l x.l.length)) := Lib.hid (V.inv_doc hok HX3.out.hd fun c hcm => by
          obtain ⟨_, _, _, hcs⟩ := HX3.out.comps
          obtain ⟨k, hk, rfl⟩ := List.mem_iff_getElem.1 hcm
          exact (hcs k hk).1.len)
        have HDI : Hid (V.decI (V.doc (V.invLines x.d x.t x.l x.l.length)) = (x.d, x.t, x.l, 0)) := Lib.hid (V.decI_doc hok HX3.out.hd HX3.out.hdw fun c hcm => by
          obtain ⟨_, _, _, hcs⟩ := HX3.out.comps
          obtain ⟨k, hk, rfl⟩ := List.mem_iff_getElem.1 hcm
          exact ⟨(hcs k hk).1.len, (hcs k hk).1.dig⟩)
        have HBI := Lib.hid hbuf.bytesIn
        obtain ⟨ua, uc, hue, hj⟩ := HBI.out
        subst hue
        have HDL := Lib.hid (V.doc_len HDO.out)
        clear he hok hbuf hj
        generalize V.doc (V.invLines x.d x.t x.l x.l.length) = D at *
        go_wp2_with fail
        refine (invDecode_any (.slice ua D.length uc) D w3 (HM.out.below HBW3.out) HBI.out (by have := HDL.out; unfold maxLen; omega)).mono ?_
        rintro e w4 ⟨v4, rfl, hc4, hb4⟩
        rw [HDI.out] at hc4 ⊢
        simp only at hc4 ⊢
        have hv4 : v4.oneCell' = true := by obtain ⟨_, _, e, _⟩ := hc4; rw [e]; rfl
        have hb5 : Below w4.heap.size w4 (w4.alloc (.cells (icells x.d x.t v4) 27)) := (Below.refl _ w4).alloc (Nat.le_refl _) _
        have hb35 := hb4.trans (hb5.mono hb4.size)
        have HG5 : Hid ((w4.alloc (.cells (icells x.d x.t v4) 27)).heap[w4.heap.size]? = some (.cells (icells x.d x.t v4) 27 (0, 0))) := Lib.hid (heap_alloc_new w4 _)
        have HG35 := Lib.hid ((hb35.block _ hz3).trans HG3.out)
        have HC5 := Lib.hid (hc4.below hb5)
        have HX5 := Lib.hid (HX3.out.below hb35)
        have HB5 := Lib.hid (HB3.out.trans (hb35.mono HB3.out.size))
        clear hb4 hb5 hb35 hc4 HB3 HBW3 HG3 HX3 hz3 HBI HDI HDL HDO
        go_wp2_with (first | (refine wl_storeIN rfl _ _ rfl _ _ rfl x.d x.t v4 HX5.out.hd hv4 rfl rfl ?_; clear hv4; generalize w4.alloc (.cells (icells x.d x.t v4) 27) = w5 at *; generalize w4.heap.size = X4 at *) | (refine wg_loadI rfl _ rfl X4 rfl (icells x.d x.t v4) (icells_size HX5.out.hd _ _) HG5.out ?_) | (refine wg_loadI rfl _ rfl X rfl (icells x.d x.t x.v) (icells_size HX5.out.hd _ _) HG35.out ?_) | fail)
        refine (same_true x.d x.t v4 x.v x.l w5 HX5.out.hd HX5.out.hdw HC5.out HX5.out.comps (by have := HX5.out.len; omega)).mono ?_
        rintro e w7 ⟨rfl, hb7⟩
        have HB7 := Lib.hid (HB5.out.trans (hb7.mono HB5.out.size))
        clear hb7 HB5 HX5 HC5 HG5 HG35
        go_wp2_with fail
        go_roundw
        case rel => exact ⟨j + 1, by omega, by go_num, HB7.out⟩
        case measure => simp [intOf]; omega
    · obtain rfl : j = xs.length := by omega
      go_wp2_with fail
      refine (awake19_any _ (HM.out.below HBW.out)).mono ?_
      rintro e w9 ⟨rfl, hb9⟩
      have HB9 := Lib.hid (HBW.out.trans (hb9.mono HBW.out.size))
      clear hb9
      go_wp2
      go_ret
      exact ⟨ret_bool rfl, HB9.out⟩
end Go.Proofs.YtnhfaincdabdkaaGreatDoor
namespace Go.Proofs.YtnhfaincdabdkaaGreatDoor
open Go.ChangeShapes Go.WideShapes Go.ChangeAt Go.RowKit

theorem cellsI : Tryz.prog.cellsOf 3 = 1 := by kernel_rfl
theorem cellsS : Tryz.prog.cellsOf 9 = 1 := by kernel_rfl

set_option maxRecDepth 100000 in
theorem read_nums {H : Type} {enc : TypeId × Value → H} {W : World} {base : Nat} {v : Value} {d : DataW H} {p : List MemPlace} (hv : Value.okWide Tryz.prog W .any base 28 v)
    (h : DataW.Trod enc Tryz.prog W 0 (fun _ => true) true 28 v d p) : ∃ a m cap, v = .slice a m cap ∧ Nums W a m := by
  obtain ⟨a0, len, cap, rfl⟩ := okWide_slice Tryz.underlying28 hv
  refine ⟨a0, len, cap, rfl, ?_⟩
  obtain ⟨fuel0, hf⟩ := h
  rcases open_ints Tryz.underlying28 Tryz.underlying3 cellsI hf with ⟨hcs, hx⟩ | ⟨a, len', cap', zs, hcs, _, hl, hm, hz, hx, hcell, hwz⟩
  · simp [Value.cells] at hcs
    obtain ⟨rfl, rfl, rfl⟩ := hcs
    exact ⟨by decide, fun j hj => absurd hj (by omega)⟩
  · simp [Value.cells] at hcs
    obtain ⟨rfl, rfl, rfl⟩ := hcs
    simp only [if_true] at hz
    refine ⟨by omega, fun j hj => ?_⟩
    obtain ⟨b, off, spot⟩ := a
    have hspot : spot = none := by simpa [Addr.add] using World.cell?_spot (hcell 0 (by omega))
    subst hspot
    have hc := hcell j (by omega)
    rw [add_plain] at hc
    have hin : zs.getD j 0 ∈ zs := by rw [List.getD_eq_getElem?_getD, List.getElem?_eq_getElem (by omega)]; exact List.getElem_mem _
    exact ⟨b, off, zs.getD j 0, rfl, World.block_lt_of_cell? _ _ hc, hc, hwz _ hin⟩

set_option maxRecDepth 100000 in
theorem read_strs {H : Type} {enc : TypeId × Value → H} {W : World} {base : Nat} {v : Value} {d : DataW H} {p : List MemPlace} (hv : Value.okWide Tryz.prog W .any base 61 v)
    (h : DataW.Trod enc Tryz.prog W 0 (fun _ => true) true 61 v d p) : ∃ L : List V.Bs, Strs W v L ∧ L.length ≤ maxLen ∧ ∀ x ∈ L, x.length ≤ maxLen := by
  obtain ⟨a0, len, cap, rfl⟩ := okWide_slice Tryz.underlying61 hv
  obtain ⟨fuel0, hf⟩ := h
  rcases open_strings Tryz.underlying61 Tryz.underlying9 cellsS hf with ⟨hcs, hx⟩ | ⟨a, len', cap', ss, hcs, _, hl, hm, hz, hx, hcell, hwz⟩
  · simp [Value.cells] at hcs
    obtain ⟨rfl, rfl, rfl⟩ := hcs
    exact ⟨[], Strs.nil W, by simp, fun x hx => by simp at hx⟩
  · simp [Value.cells] at hcs
    obtain ⟨rfl, rfl, rfl⟩ := hcs
    simp only [if_true] at hz
    have hll : ((ss.take len).map fun s : ByteArray => s.data.toList).length = len := by rw [List.length_map, List.length_take]; omega
    refine ⟨(ss.take len).map fun s : ByteArray => s.data.toList, ⟨some a, cap, by rw [hll], fun j hj => ?_⟩, by omega, fun x hx => ?_⟩
    · rw [hll] at hj
      obtain ⟨b, off, spot⟩ := a
      have hspot : spot = none := by simpa [Addr.add] using World.cell?_spot (hcell 0 (by omega))
      subst hspot
      have hc := hcell j (by omega)
      rw [add_plain] at hc
      refine ⟨b, off, rfl, World.block_lt_of_cell? _ _ hc, ?_⟩
      rw [hc]
      congr 2
      rw [List.getElem_map, List.getElem_take, List.getD_eq_getElem?_getD, List.getElem?_eq_getElem (by omega)]
      exact (bs_of _).symm
    · rw [List.mem_map] at hx
      obtain ⟨s, hs, rfl⟩ := hx
      rw [bs_size]
      exact hwz s (List.mem_of_mem_take hs)
end Go.Proofs.YtnhfaincdabdkaaGreatDoor
namespace Go.Proofs.YtnhfaincdabdkaaGreatDoor
open Go.ChangeShapes Go.WideShapes Go.ChangeAt Go.RowKit

theorem cellsU8 : Tryz.prog.cellsOf 5 = 1 := by kernel_rfl
set_option maxRecDepth 100000 in
theorem read_bytes {H : Type} {enc : TypeId × Value → H} {W : World} {base : Nat} {v : Value} {d : DataW H} {p : List MemPlace} (hv : Value.okWide Tryz.prog W .any base 22 v)
    (h : DataW.Trod enc Tryz.prog W 0 (fun _ => true) true 22 v d p) : ∃ bs : V.Bs, BytesIn W v bs ∧ bs.length ≤ maxLen := by
  obtain ⟨a0, len, cap, rfl⟩ := okWide_slice Tryz.underlying22 hv
  obtain ⟨fuel0, hf⟩ := h
  rcases open_ints Tryz.underlying22 Tryz.underlying5 cellsU8 hf with ⟨hcs, hx⟩ | ⟨a, len', cap', zs, hcs, _, hl, hm, hz, hx, hcell, hwz⟩
  · simp [Value.cells] at hcs
    obtain ⟨rfl, rfl, rfl⟩ := hcs
    exact ⟨[], ⟨none, 0, rfl, Nat.le_refl _, fun j hj => by simp at hj⟩, Nat.zero_le _⟩
  · simp [Value.cells] at hcs
    obtain ⟨rfl, rfl, rfl⟩ := hcs
    simp only [if_true] at hz
    obtain ⟨b, off, spot⟩ := a
    have hlen : ((zs.take len).map fun n => UInt8.ofNat n.toNat).length = len := by simp; omega
    refine ⟨(zs.take len).map fun n => UInt8.ofNat n.toNat, ?_, by rw [hlen]; omega⟩
    by_cases h0 : 0 < len
    · have hspot : spot = none := by simpa [Addr.add] using World.cell?_spot (hcell 0 (by omega))
      subst hspot
      refine ⟨some ⟨b, off, none⟩, cap, by rw [hlen], by rw [hlen]; exact hl, fun j hj => ?_⟩
      rw [hlen] at hj
      have hc := hcell j (by omega)
      rw [add_plain] at hc
      refine ⟨b, off, rfl, World.block_lt_of_cell? _ _ hc, ?_⟩
      rw [hc]
      have hb := range_u8 hwz j
      have e : zs.getD j 0 = zs[j]'(by omega) := by simp [List.getD, List.getElem?_eq_getElem (show j < zs.length by omega)]
      rw [e]
      rw [List.getElem?_eq_getElem (show j < zs.length by omega), Option.getD_some] at hb
      simp only [List.getElem_map, List.getElem_take, UInt8.toNat_ofNat']
      congr 2
      omega
    · obtain rfl : len = 0 := by omega
      refine ⟨_, cap, by rw [hlen], by rw [hlen]; exact hl, fun j hj => ?_⟩
      rw [hlen] at hj
      omega
end Go.Proofs.YtnhfaincdabdkaaGreatDoor
namespace Go.Proofs.YtnhfaincdabdkaaGreatDoor
open Go.RowKit

theorem pair_new (x y : IV) (w : World) (t : TypeId) : (w.alloc (.cells (pcl x y).toArray t)).rangeAt w.heap.size 0 (pcl x y) := fun i u hu => by
  rw [World.cell?_alloc_new, Nat.zero_add]
  simpa using hu
theorem pair_left {x y : IV} {w : World} {g off : Nat} (h : w.rangeAt g off (pcl x y)) : w.rangeAt g off (icl x) := fun i u hu => h i u (by
  unfold pcl
  rw [List.getElem?_append_left (List.getElem?_eq_some_iff.1 hu).1]
  exact hu)
theorem pair_right {x y : IV} (hx : x.d.length = 32) {w : World} {g off : Nat} (h : w.rangeAt g off (pcl x y)) : w.rangeAt g (off + 34) (icl y) := fun i u hu => by
  have := h (34 + i) u (by
    unfold pcl
    rw [List.getElem?_append_right (by rw [icl_len hx]; omega), icl_len hx, Nat.add_sub_cancel_left]
    exact hu)
  rwa [show off + (34 + i) = off + 34 + i by omega] at this
/-- three pairs as a slice, as a step of a region that draws -/
def cells3 (p q r : List Value) : Array Value := (p ++ (q ++ r)).toArray
theorem three_at {p q r : List Value} (hp : p.length = 68) (hq : q.length = 68) {w : World} {g : Nat} {T : TypeId} (hg : w.heap[g]? = some (.cells (cells3 p q r) T (0, 0))) : w.rangeAt g 0 p ∧ w.rangeAt g 68 q ∧ w.rangeAt g 136 r := by
  have e : ∀ i, w.cell? ⟨g, i, none⟩ = (p ++ (q ++ r))[i]? := fun i => by
    rw [cell_of_row w g i _ _ _ hg]
    unfold cells3
    rw [List.getElem?_toArray]
  refine ⟨fun i u hu => ?_, fun i u hu => ?_, fun i u hu => ?_⟩
  · rw [Nat.zero_add, e, List.getElem?_append_left (List.getElem?_eq_some_iff.1 hu).1]; exact hu
  · rw [e, List.getElem?_append_right (by omega), hp, show 68 + i - 68 = i by omega, List.getElem?_append_left (List.getElem?_eq_some_iff.1 hu).1]; exact hu
  · rw [e, List.getElem?_append_right (by omega), hp, List.getElem?_append_right (by omega), hq, show 136 + i - 68 - 68 = i by omega]; exact hu
/-- what merging returns -/
theorem mergeVal_dig {d d' : List Int} {t t' : Int} {l l' : List V.Comp} (hd : d.length = 32) (hdw : ∀ n ∈ d, (Lit.int .u8 n).wf = true) : (V.mergeVal d t l d' t' l').1.length = 32 ∧ (∀ n ∈ (V.mergeVal d t l d' t' l').1, (Lit.int .u8 n).wf = true) ∧ (V.mergeVal d t l d' t' l').2.2.length ≤ l.length + l'.length := by
  unfold V.mergeVal
  split
  · exact ⟨hd, hdw, V.mergeTo_out _ (Nat.le_refl _)⟩
  · exact ⟨rfl, by decide, by simp⟩
end Go.Proofs.YtnhfaincdabdkaaGreatDoor

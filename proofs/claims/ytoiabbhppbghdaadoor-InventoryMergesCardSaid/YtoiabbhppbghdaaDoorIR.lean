/-
  Walk: the law InventoryMerges.
-/
import Derived.Test.YtoiabbhppbghdaaDoorIQ
import Derived.Test.YtoiabbhppbghdaaDoorIM
import Derived.Test.YtoiabbhppbghdaaDoorIP
import Derived.Test.YtoiabbhppbghdaaDoorIH
import Derived.Test.YtoiabbhppbghdaaDoorJI
import Derived.Test.YtoiabbhppbghdaaDoorT2
import Derived.OrdersHeld
namespace Go.Proofs.YtoiabbhppbghdaaDoor
open Go.RowKit

set_option maxRecDepth 100000 in
set_option maxHeartbeats 12800000 in
theorem merges_any (x1 x2 : IV) (a : Option Addr) (m cap : Nat) (w : World) (hmx : MaxOk w) (hd1 : x1.d.length = 32) (hw1 : ∀ n ∈ x1.d, (Lit.int .u8 n).wf = true) (hc1 : Comps w x1.v x1.l)
    (hd2 : x2.d.length = 32) (hw2 : ∀ n ∈ x2.d, (Lit.int .u8 n).wf = true) (hc2 : Comps w x2.v x2.l) (ht : Nums w a m) :
    Calls Tryd.prog 5 #[.agg (icells x1.d x1.t x1.v), .agg (icells x2.d x2.t x2.v), .slice a m cap] w fun e w' => e = .returned (.bool true) ∧ Below w.heap.size w w' := by
  have HM := Lib.hid hmx
  have HT := Lib.hid ht
  have H1 := Lib.hid (And.intro hd1 (And.intro hw1 hc1))
  have H2 := Lib.hid (And.intro hd2 (And.intro hw2 hc2))
  clear hmx ht hd1 hw1 hc1 hd2 hw2 hc2
  obtain ⟨W0, hW0⟩ : ∃ W0, W0 = (w.alloc (.cells (icells x1.d x1.t x1.v) 26)).alloc (.cells (icells x2.d x2.t x2.v) 26) := ⟨_, rfl⟩
  have hz0 : W0.heap.size = w.heap.size + 2 := by rw [hW0]; simp
  have hb0 : Below w.heap.size w W0 := by rw [hW0]; exact ((Below.refl _ w).alloc (Nat.le_refl _) _).alloc (by simp) _
  have hg1 : W0.heap[w.heap.size]? = some (.cells (icells x1.d x1.t x1.v) 26 (0, 0)) := by
    rw [hW0, Below.heap_alloc _ _ _ (by simp)]; exact heap_alloc_new w _
  have hg2 : W0.heap[w.heap.size + 1]? = some (.cells (icells x2.d x2.t x2.v) 26 (0, 0)) := by
    rw [hW0]; have := heap_alloc_new (w.alloc (.cells (icells x1.d x1.t x1.v) 26)) (.cells (icells x2.d x2.t x2.v) 26); simpa using this
  have HB0 := Lib.hid hb0
  have HG1 := Lib.hid hg1
  have HG2 := Lib.hid hg2
  clear hb0 hg1 hg2
  go_enter Tryd.func5, Tryd.ntmps5
  go_wp2_with (first | (rw [← hW0]; clear hW0; refine wl_loadR rfl _ rfl w.heap.size 0 rfl x1 H1.out.1 (inv_rangeAll HG1.out) ?_) | fail)
  refine (light_any x1.d x1.t x1.v x1.l W0 H1.out.1 (H1.out.2.2.below (HB0.out.mono (Nat.le_refl _)))).mono ?_
  rintro e w1 ⟨r1, rfl, hr1, hb1⟩
  have HB1 := Lib.hid (HB0.out.trans (hb1.mono HB0.out.size))
  replace HG1 := Lib.hid ((hb1.block _ (by omega)).trans HG1.out)
  replace HG2 := Lib.hid ((hb1.block _ (by omega)).trans HG2.out)
  have hz1 : w.heap.size + 2 ≤ w1.heap.size := by have := hb1.size; omega
  clear hb1 hz0
  rcases r1 with _ | _
  · go_wp2
    go_ret
    exact ⟨ret_bool rfl, HB1.out⟩
  · have hl1 := hr1 rfl
    go_wp2_with (first | (refine wg_loadR rfl _ rfl (w.heap.size + 1) 0 rfl x2 H2.out.1 (inv_rangeAll HG2.out) ?_) | fail)
    refine (light_any x2.d x2.t x2.v x2.l w1 H2.out.1 (H2.out.2.2.below (HB1.out.mono (Nat.le_refl _)))).mono ?_
    rintro e w2 ⟨r2, rfl, hr2, hb2⟩
    have HB2 := Lib.hid (HB1.out.trans (hb2.mono HB1.out.size))
    replace HG1 := Lib.hid ((hb2.block _ (by omega)).trans HG1.out)
    replace HG2 := Lib.hid ((hb2.block _ (by omega)).trans HG2.out)
    have hz2 : w.heap.size + 2 ≤ w2.heap.size := by have := hb2.size; omega
    clear hb2 hz1 hr1
    rcases r2 with _ | _
    · go_wp2
      go_ret
      exact ⟨ret_bool rfl, HB2.out⟩
    · have hl2 := hr2 rfl
      clear hr2
      have hb3 : Below w.heap.size w (w2.alloc (.cells #[.slice a m cap, .int .i64 0] 38)) := HB2.out.alloc HB2.out.size _
      have HTP : Hid (Tape (w2.alloc (.cells #[.slice a m cap, .int .i64 0] 38)) w2.heap.size 0) := Lib.hid (Tape.made HT.out hb3 HB2.out.size (by rw [World.cell?_alloc_new]; rfl) (by rw [World.cell?_alloc_new]; rfl) (by rw [frozen_alloc, if_pos rfl]))
      have HB3 := Lib.hid hb3
      replace HG1 := Lib.hid ((Below.heap_alloc w2 (.cells #[.slice a m cap, .int .i64 0] 38) _ (by omega)).trans HG1.out)
      replace HG2 := Lib.hid ((Below.heap_alloc w2 (.cells #[.slice a m cap, .int .i64 0] 38) _ (by omega)).trans HG2.out)
      have hz3 : w2.heap.size < (w2.alloc (.cells #[.slice a m cap, .int .i64 0] 38)).heap.size := by simp
      clear hb3
      go_wp2_with fail
      generalize w2.alloc (.cells #[.slice a m cap, .int .i64 0] 38) = w3 at *
      generalize w2.heap.size = T at *
      refine (made_any T 0 _ HTP.out (by omega)).mono ?_
      rintro e w4 ⟨tc, vc, lc, hmc, rfl, ht4, hg4⟩
      have HT4 := Lib.hid ht4
      have HMC := Lib.hid hmc
      have HG4 := Lib.hid hg4
      clear ht4 hmc hg4 HTP
      go_wp2_with fail
      refine (made_any T (0 + 50) _ HT4.out (by omega)).mono ?_
      rintro e w5 ⟨td, vd, ld, hmd, rfl, ht5, hg5⟩
      have hs4 := HG4.out.size
      have hs5 := hg5.size
      have hrc : CRow w5 (T + 1) vc lc := (HMC.out.row.less (show T + 1 ≤ w3.heap.size by omega)).kept hg5 (fun b e => by cases e; omega)
      have hrd : CRow w5 (T + 1) vd ld := hmd.row.less (by omega)
      have HG45 := Lib.hid (World.grownBy.trans HG4.out hg5)
      have hB5 : Below w.heap.size w w5 := HB3.out.trans (grown_below HG45.out (by omega) HB3.out.size)
      have hlc := HMC.out.len
      have hld := hmd.len
      have htp5 := ht5
      have hk1 : w5.heap[w.heap.size]? = _ := (HG45.out.block w.heap.size (by omega) (by simp; omega)).trans HG1.out
      have hk2 : w5.heap[w.heap.size + 1]? = _ := (HG45.out.block (w.heap.size + 1) (by omega) (by simp; omega)).trans HG2.out
      have oc := hrc.comps.one
      have od := hrd.comps.one
      obtain ⟨A0, hA0⟩ : ∃ A0, A0 = (w5.alloc (.cells (icells zero32 0 (.slice none 0 0)) 26)).alloc (.cells (icells zero32 0 (.slice none 0 0)) 26) := ⟨_, rfl⟩
      have hzA : A0.heap.size = w5.heap.size + 2 := by rw [hA0]; simp
      have hbA : Below w5.heap.size w5 A0 := by rw [hA0]; exact ((Below.refl _ w5).alloc (Nat.le_refl _) _).alloc (by simp) _
      have q0 : A0.heap[w5.heap.size]? = some (.cells (icells zero32 0 (.slice none 0 0)) 26 (0, 0)) := by
        rw [hA0, Below.heap_alloc _ _ _ (by simp)]; exact heap_alloc_new w5 _
      have q1 : A0.heap[w5.heap.size + 1]? = some (.cells (icells zero32 0 (.slice none 0 0)) 26 (0, 0)) := by
        rw [hA0]; have := heap_alloc_new (w5.alloc (.cells (icells zero32 0 (.slice none 0 0)) 26)) (.cells (icells zero32 0 (.slice none 0 0)) 26); simpa using this
      have R0 := Lib.hid q0
      have R1 : Hid ((A0.setRow w5.heap.size (icells (dig1 1) tc vc)).heap[w5.heap.size + 1]? = some (.cells (icells zero32 0 (.slice none 0 0)) 26 (0, 0))) := Lib.hid (by rw [setRow_other _ _ _ _ (by omega)]; exact q1)
      have hbW : Below w5.heap.size w5 ((A0.setRow w5.heap.size (icells (dig1 1) tc vc)).setRow (w5.heap.size + 1) (icells (dig1 1) td vd)) := setRow_below (setRow_below hbA (Nat.le_refl _) _) (by omega) _
      have HRC := Lib.hid (hrc.kept2 (below_grown hbW none) (fun b e => by cases e))
      have HRD := Lib.hid (hrd.kept2 (below_grown hbW none) (fun b e => by cases e))
      have HGC : Hid (((A0.setRow w5.heap.size (icells (dig1 1) tc vc)).setRow (w5.heap.size + 1) (icells (dig1 1) td vd)).heap[w5.heap.size]? = some (.cells (icells (dig1 1) tc vc) 26 (0, 0))) := Lib.hid (by
        rw [setRow_other _ _ _ _ (by omega)]; exact setRow_heap _ _ _ _ _ _ q0)
      have HGD : Hid (((A0.setRow w5.heap.size (icells (dig1 1) tc vc)).setRow (w5.heap.size + 1) (icells (dig1 1) td vd)).heap[w5.heap.size + 1]? = some (.cells (icells (dig1 1) td vd) 26 (0, 0))) := Lib.hid (setRow_heap _ _ _ _ _ _ R1.out)
      have HGA := Lib.hid ((hbW.block w.heap.size (by omega)).trans hk1)
      have HGB := Lib.hid ((hbW.block (w.heap.size + 1) (by omega)).trans hk2)
      have HTW := Lib.hid (ht5.below hbW)
      have HBW := Lib.hid (hB5.trans (hbW.mono hB5.size))
      have HZ0 : Hid ((icells zero32 0 (.slice none 0 0)).size = 34) := Lib.hid (icells_size rfl _ _)
      have hzW : w5.heap.size + 1 < ((A0.setRow w5.heap.size (icells (dig1 1) tc vc)).setRow (w5.heap.size + 1) (icells (dig1 1) td vd)).heap.size := by simp; omega
      have hwT : w.heap.size + 2 ≤ T := hz2
      have hT5 : T < w5.heap.size := by omega
      clear hmd ht5 hg5 hrc hrd hB5 htp5 hk1 hk2 hbA q0 q1 hbW HT4 HMC HG4 HG45 HB3 HB2 HB1 HB0 HG1 HG2 hs4 hs5 hzA hz3 hz2
      go_wp2_with (first | (rw [zero_inv, ← hA0]; clear hA0; refine wl_storeV rfl _ _ rfl _ _ _ R0.out rfl (dig1 1) tc vc rfl oc rfl HZ0.out ?_) | (refine wl_storeV rfl _ _ rfl _ _ _ R1.out rfl (dig1 1) td vd rfl od rfl HZ0.out ?_; clear R0 R1; generalize (A0.setRow w5.heap.size (icells (dig1 1) tc vc)).setRow (w5.heap.size + 1) (icells (dig1 1) td vd) = WA at *; generalize w5.heap.size = C at *) | fail)
      refine wp_region_held (S := fun W => WA.grownBy W (some T)) (by kernel_rfl) ?_
      have hS0 : WA.grownBy WA.drew (some T) := drew_grown WA _
      change wpAnyH _ _ _ _ _ _ _ _ (World.drew _)
      have hbd := (Below.refl WA.heap.size WA).drew
      have HTD := Lib.hid (HTW.out.below hbd)
      have HCD := Lib.hid (HRC.out.kept2 (drew_grown WA (some T)) (fun b e h => by cases e; have := HRC.out.block _ h; omega))
      have HDD := Lib.hid (HRD.out.kept2 (drew_grown WA (some T)) (fun b e h => by cases e; have := HRD.out.block _ h; omega))
      have HBD := Lib.hid HBW.out.drew
      have hzT : T < WA.heap.size := by omega
      have hzw : w.heap.size ≤ WA.heap.size := HBW.out.size
      clear hbd
      generalize WA.drew = WD at *
      simp only [List.getElem_toArray, List.getElem_cons_succ, List.getElem_cons_zero, Act.put, List.setIfInBounds_toArray, List.set_cons_succ, List.set_cons_zero]
      refine wpAnyH_take (i := 0) (v := .agg (icells x1.d x1.t x1.v)) rfl (by kernel_rfl) (by kernel_rfl) (by kernel_rfl) (fun _ _ _ h => h) (Or.inl ⟨by rfl, fun W hS => ex_load rfl rfl (load_invR (x := x1) H1.out.1 (inv_rangeAll (x := x1) ((hS.block (w.heap.size) (by omega) (by simp; omega)).trans HGA.out)))⟩) hS0 ?_
      refine wpAnyH_take (i := 1) (v := .agg (icells x2.d x2.t x2.v)) rfl (by kernel_rfl) (by kernel_rfl) (by kernel_rfl) (fun _ _ _ h => h) (Or.inl ⟨by rfl, fun W hS => ex_load rfl rfl (load_invR (x := x2) H2.out.1 (inv_rangeAll (x := x2) ((hS.block (w.heap.size + 1) (by omega) (by simp; omega)).trans HGB.out)))⟩) hS0 ?_
      refine wpAnyH_take (i := 3) (v := .agg (icells (dig1 1) tc vc)) rfl (by kernel_rfl) (by kernel_rfl) (by kernel_rfl) (fun _ _ _ h => h) (Or.inl ⟨by rfl, fun W hS => ex_load rfl rfl (load_invR (x := ⟨dig1 1, tc, vc, lc⟩) rfl (inv_rangeAll (x := ⟨dig1 1, tc, vc, lc⟩) ((hS.block (C) (by omega) (by simp; omega)).trans HGC.out)))⟩) hS0 ?_
      refine wpAnyH_take (i := 4) (v := .agg (icells (dig1 1) td vd)) rfl (by kernel_rfl) (by kernel_rfl) (by kernel_rfl) (fun _ _ _ h => h) (Or.inl ⟨by rfl, fun W hS => ex_load rfl rfl (load_invR (x := ⟨dig1 1, td, vd, ld⟩) rfl (inv_rangeAll (x := ⟨dig1 1, td, vd, ld⟩) ((hS.block (C + 1) (by omega) (by simp; omega)).trans HGD.out)))⟩) hS0 ?_
      refine wpAnyH_take (i := 6) (v := .agg (icells (dig1 1) tc vc)) rfl (by kernel_rfl) (by kernel_rfl) (by kernel_rfl) (fun _ _ _ h => h) (Or.inl ⟨by rfl, fun W hS => ex_load rfl rfl (load_invR (x := ⟨dig1 1, tc, vc, lc⟩) rfl (inv_rangeAll (x := ⟨dig1 1, tc, vc, lc⟩) ((hS.block (C) (by omega) (by simp; omega)).trans HGC.out)))⟩) hS0 ?_
      refine wpAnyH_take (i := 7) (v := .agg (icells (dig1 1) td vd)) rfl (by kernel_rfl) (by kernel_rfl) (by kernel_rfl) (fun _ _ _ h => h) (Or.inl ⟨by rfl, fun W hS => ex_load rfl rfl (load_invR (x := ⟨dig1 1, td, vd, ld⟩) rfl (inv_rangeAll (x := ⟨dig1 1, td, vd, ld⟩) ((hS.block (C + 1) (by omega) (by simp; omega)).trans HGD.out)))⟩) hS0 ?_
      refine wpAnyH_take (i := 8) (v := .pointer (some ⟨T, 0, none⟩)) rfl (by kernel_rfl) (by kernel_rfl) (by kernel_rfl) (fun _ _ _ h => h) (Or.inl ⟨by rfl, fun W _ => by go_simp⟩) hS0 ?_
      refine wpAnyH_take (i := 13) (v := .int .i64 0) rfl (by kernel_rfl) (by kernel_rfl) (by kernel_rfl) (fun _ _ _ h => h) (Or.inl ⟨by rfl, fun W _ => by go_simp⟩) hS0 ?_
      simp only [List.getElem_toArray, List.getElem_cons_succ, List.getElem_cons_zero, Act.put, List.setIfInBounds_toArray, List.set_cons_succ, List.set_cons_zero]
      refine wpAnyH_take (i := 2) (v := .agg (pcl x1 x2).toArray) rfl (by kernel_rfl) (by kernel_rfl) (by kernel_rfl) (fun _ _ _ h => h) (Or.inl ⟨by rfl, fun W _ => by
        refine ex_build (parts := #[(0, .tmp 31), (1, .tmp 32)]) rfl ?_
        simp only [List.map_toArray, List.map_cons, List.map_nil]
        exact built_pair H1.out.1 H2.out.1⟩) hS0 ?_
      refine wpAnyH_take (i := 5) (v := .agg (pcl ⟨dig1 1, tc, vc, lc⟩ ⟨dig1 1, td, vd, ld⟩).toArray) rfl (by kernel_rfl) (by kernel_rfl) (by kernel_rfl) (fun _ _ _ h => h) (Or.inl ⟨by rfl, fun W _ => by
        refine ex_build (parts := #[(0, .tmp 34), (1, .tmp 35)]) rfl ?_
        simp only [List.map_toArray, List.map_cons, List.map_nil]
        exact built_pair (x := ⟨dig1 1, tc, vc, lc⟩) (y := ⟨dig1 1, td, vd, ld⟩) rfl rfl⟩) hS0 ?_
      simp only [List.getElem_toArray, List.getElem_cons_succ, List.getElem_cons_zero, Act.put, List.setIfInBounds_toArray, List.set_cons_succ, List.set_cons_zero]
      refine wpAnyH_all (rs := [9]) (by kernel_rfl) (by simp) ?_
      intro i hi
      obtain rfl : i = 9 := by simpa using hi
      clear hi
      refine wpOp_step (by rfl) (fun K hK => ?_)
      refine step_call rfl _ #[.agg (icells (dig1 1) td vd), .pointer (some ⟨T, 0, none⟩)] (by go_simp) (odd_any T (0 + 50 + 50) (dig1 1) td vd ld WD HTD.out (by omega) rfl (by decide) HDD.out.comps (by omega)) ?_
      rintro e w7 ⟨d', t', v', l', rfl, hd', hdw', hc', hl', hg'⟩
      have hS7 := World.grownBy.trans hS0 hg'
      refine ⟨_, rfl, hK _ _ ⟨hS7, ?_⟩⟩
      clear hK K
      have HO := Lib.hid (And.intro hd' (And.intro hdw' hc'))
      have HC7 := Lib.hid (HCD.out.kept2 hg' (fun b e h => by cases e; have := HCD.out.block _ h; omega))
      have HD7 := Lib.hid (HDD.out.kept2 hg' (fun b e h => by cases e; have := HDD.out.block _ h; omega))
      have HB7 := Lib.hid (HBD.out.trans (grown_below hg' (by omega) HBD.out.size))
      clear hd' hdw' hc' hg' HCD HDD HTD HTW HRC HRD
      simp only [List.getElem_toArray, List.getElem_cons_succ, List.getElem_cons_zero, Act.put, List.setIfInBounds_toArray, List.set_cons_succ, List.set_cons_zero]
      refine wpAnyH_take (i := 10) (v := .agg (pcl ⟨dig1 1, tc, vc, lc⟩ ⟨d', t', v', l'⟩).toArray) rfl (by kernel_rfl) (by kernel_rfl) (by kernel_rfl) (fun _ _ _ h => h) (Or.inl ⟨by rfl, fun W _ => by
        refine ex_build (parts := #[(0, .tmp 37), (1, .tmp 40)]) rfl ?_
        simp only [List.map_toArray, List.map_cons, List.map_nil]
        exact built_pair (x := ⟨dig1 1, tc, vc, lc⟩) (y := ⟨d', t', v', l'⟩) rfl HO.out.1⟩) hS7 ?_
      simp only [List.getElem_toArray, List.getElem_cons_succ, List.getElem_cons_zero, Act.put, List.setIfInBounds_toArray, List.set_cons_succ, List.set_cons_zero]
      refine wpAnyH_all (rs := [11]) (by kernel_rfl) (by simp) ?_
      intro i hi
      obtain rfl : i = 11 := by simpa using hi
      clear hi
      refine wpOp_step (by rfl) (fun K hK => step_build3 rfl _ _ _ rfl (pcl x1 x2) (pcl ⟨dig1 1, tc, vc, lc⟩ ⟨dig1 1, td, vd, ld⟩) (pcl ⟨dig1 1, tc, vc, lc⟩ ⟨d', t', v', l'⟩) (pcl_len H1.out.1 H2.out.1) (pcl_len rfl rfl) (pcl_len rfl HO.out.1) rfl rfl rfl (hK _ _ ⟨World.grownBy.trans hS7 (World.grownBy_alloc w7 _ (some T)), ?_⟩))
      clear hK K
      simp only [List.getElem_toArray, List.getElem_cons_succ, List.getElem_cons_zero, Act.put, List.setIfInBounds_toArray, List.set_cons_succ, List.set_cons_zero]
      refine wpAnyH_take (i := 12) (v := .int .i64 3) rfl (by kernel_rfl) (by kernel_rfl) (by kernel_rfl) (fun _ _ _ h => h) (Or.inl ⟨by rfl, fun W _ => by go_simp⟩) (World.grownBy.trans hS7 (World.grownBy_alloc w7 _ (some T))) ?_
      refine wpAnyH_done (by kernel_rfl) ?_ _
      simp only [List.getElem_toArray, List.getElem_cons_succ, List.getElem_cons_zero, Act.put, List.setIfInBounds_toArray, List.set_cons_succ, List.set_cons_zero]
      have hb8 : Below w7.heap.size w7 (w7.alloc (.cells (cells3 (pcl x1 x2) (pcl ⟨dig1 1, tc, vc, lc⟩ ⟨dig1 1, td, vd, ld⟩) (pcl ⟨dig1 1, tc, vc, lc⟩ ⟨d', t', v', l'⟩)) 48)) := (Below.refl _ w7).alloc (Nat.le_refl _) _
      have HB8 := Lib.hid (HB7.out.trans (hb8.mono HB7.out.size))
      obtain ⟨hr1, hr2, hr3⟩ := three_at (pcl_len H1.out.1 H2.out.1) (pcl_len (x := ⟨dig1 1, tc, vc, lc⟩) (y := ⟨dig1 1, td, vd, ld⟩) rfl rfl) (heap_alloc_new w7 (.cells (cells3 (pcl x1 x2) (pcl ⟨dig1 1, tc, vc, lc⟩ ⟨dig1 1, td, vd, ld⟩) (pcl ⟨dig1 1, tc, vc, lc⟩ ⟨d', t', v', l'⟩)) 48))
      have HP : Hid (∀ j, j < 3 → ∃ x y, IVok (w7.alloc (.cells (cells3 (pcl x1 x2) (pcl ⟨dig1 1, tc, vc, lc⟩ ⟨dig1 1, td, vd, ld⟩) (pcl ⟨dig1 1, tc, vc, lc⟩ ⟨d', t', v', l'⟩)) 48)) x 1000 ∧ IVok (w7.alloc (.cells (cells3 (pcl x1 x2) (pcl ⟨dig1 1, tc, vc, lc⟩ ⟨dig1 1, td, vd, ld⟩) (pcl ⟨dig1 1, tc, vc, lc⟩ ⟨d', t', v', l'⟩)) 48)) y 1000 ∧ (w7.alloc (.cells (cells3 (pcl x1 x2) (pcl ⟨dig1 1, tc, vc, lc⟩ ⟨dig1 1, td, vd, ld⟩) (pcl ⟨dig1 1, tc, vc, lc⟩ ⟨d', t', v', l'⟩)) 48)).rangeAt w7.heap.size (j * 68) (pcl x y)) := Lib.hid (by
        have ok1 : IVok (w7.alloc (.cells (cells3 (pcl x1 x2) (pcl ⟨dig1 1, tc, vc, lc⟩ ⟨dig1 1, td, vd, ld⟩) (pcl ⟨dig1 1, tc, vc, lc⟩ ⟨d', t', v', l'⟩)) 48)) x1 1000 := ⟨H1.out.1, H1.out.2.1, H1.out.2.2.below (HB8.out.mono (Nat.le_refl _)), by omega⟩
        have ok2 : IVok (w7.alloc (.cells (cells3 (pcl x1 x2) (pcl ⟨dig1 1, tc, vc, lc⟩ ⟨dig1 1, td, vd, ld⟩) (pcl ⟨dig1 1, tc, vc, lc⟩ ⟨d', t', v', l'⟩)) 48)) x2 1000 := ⟨H2.out.1, H2.out.2.1, H2.out.2.2.below (HB8.out.mono (Nat.le_refl _)), by omega⟩
        have okc : IVok (w7.alloc (.cells (cells3 (pcl x1 x2) (pcl ⟨dig1 1, tc, vc, lc⟩ ⟨dig1 1, td, vd, ld⟩) (pcl ⟨dig1 1, tc, vc, lc⟩ ⟨d', t', v', l'⟩)) 48)) ⟨dig1 1, tc, vc, lc⟩ 1000 := ⟨rfl, (by decide : ∀ n ∈ dig1 1, (Lit.int .u8 n).wf = true), HC7.out.comps.below hb8, by show lc.length ≤ 1000; omega⟩
        have okd : IVok (w7.alloc (.cells (cells3 (pcl x1 x2) (pcl ⟨dig1 1, tc, vc, lc⟩ ⟨dig1 1, td, vd, ld⟩) (pcl ⟨dig1 1, tc, vc, lc⟩ ⟨d', t', v', l'⟩)) 48)) ⟨dig1 1, td, vd, ld⟩ 1000 := ⟨rfl, (by decide : ∀ n ∈ dig1 1, (Lit.int .u8 n).wf = true), HD7.out.comps.below hb8, by show ld.length ≤ 1000; omega⟩
        have oko : IVok (w7.alloc (.cells (cells3 (pcl x1 x2) (pcl ⟨dig1 1, tc, vc, lc⟩ ⟨dig1 1, td, vd, ld⟩) (pcl ⟨dig1 1, tc, vc, lc⟩ ⟨d', t', v', l'⟩)) 48)) ⟨d', t', v', l'⟩ 1000 := ⟨HO.out.1, HO.out.2.1, HO.out.2.2.below hb8, by show l'.length ≤ 1000; omega⟩
        intro j hj
        rcases (show j = 0 ∨ j = 1 ∨ j = 2 by omega) with rfl | rfl | rfl
        · exact ⟨_, _, ok1, ok2, hr1⟩
        · exact ⟨_, _, okc, okd, hr2⟩
        · exact ⟨_, _, okc, oko, hr3⟩)
      clear hr1 hr2 hr3 hb8 HO HC7 HD7 HB7 hS7 hS0
      generalize w7.alloc (.cells (cells3 (pcl x1 x2) (pcl ⟨dig1 1, tc, vc, lc⟩ ⟨dig1 1, td, vd, ld⟩) (pcl ⟨dig1 1, tc, vc, lc⟩ ⟨d', t', v', l'⟩)) 48) = w8 at *
      generalize w7.heap.size = B at *
      go_wp2_with fail
      go_loopw [44] (fun jv wr => ∃ j : Nat, j ≤ 3 ∧ jv = .int .i64 j ∧ Below w8.heap.size w8 wr) (fun jv _ => 3 - (intOf jv).toNat)
      case atStart => exact ⟨0, by omega, rfl, Below.refl _ _⟩
      case round =>
        obtain ⟨j, hj, rfl, hbr⟩ := hrel
        have HBR := Lib.hid hbr
        have HBW8 := Lib.hid (HB8.out.trans (hbr.mono HB8.out.size))
        clear hbr
        by_cases hlt : j < 3
        · obtain ⟨x, y, hx, hy, hr⟩ := HP.out j hlt
          have HX := Lib.hid (hx.below HBR.out)
          have HY := Lib.hid (hy.below HBR.out)
          have HR := Lib.hid (rangeAt_below hr HBR.out)
          have hi1 : (0 : Int) ≤ (j : Int) := by omega
          have hi2 : (j : Int) < 3 := by omega
          have hb9 : Below wr.heap.size wr (wr.alloc (.cells (pcl x y).toArray 48)) := (Below.refl _ wr).alloc (Nat.le_refl _) _
          have HX9 := Lib.hid (HX.out.below hb9)
          have HY9 := Lib.hid (HY.out.below hb9)
          have HP9 := Lib.hid (pair_new x y wr 48)
          have HB9 := Lib.hid (HBR.out.trans (hb9.mono HBR.out.size))
          have hox := hx.comps.one
          have hoy := hy.comps.one
          clear hx hy hr hb9
          go_wp2_with (first | (refine wl_loadP rfl _ rfl B (j * 68) rfl x y HX.out.hd HY.out.hd HR.out ?_) | (refine wl_storeP rfl _ _ rfl _ _ rfl x y HX.out.hd HY.out.hd hox hoy rfl rfl ?_; clear hox hoy; generalize wr.alloc (.cells (pcl x y).toArray 48) = w9 at *; generalize wr.heap.size = X at *) | (refine wl_loadR rfl _ rfl X 0 rfl x HX9.out.hd (pair_left HP9.out) ?_) | (refine wl_loadR rfl _ rfl X 34 rfl y HY9.out.hd (pair_right HX9.out.hd HP9.out) ?_) | fail)
          have hbw9 : Below w.heap.size w w9 := HB8.out.trans (HB9.out.mono HB8.out.size)
          refine (merge_any x.d x.t x.v x.l y.d y.t y.v y.l w9 (HM.out.below hbw9) HX9.out.hd HX9.out.hdw HX9.out.comps (by have := HX9.out.len; omega) HY9.out.hd HY9.out.hdw HY9.out.comps (by have := HY9.out.len; omega)).mono ?_
          rintro e w10 ⟨v1, rfl, hc1, hb10⟩
          have HMD := Lib.hid (mergeVal_dig (t := x.t) (t' := y.t) (l := x.l) (l' := y.l) (d' := y.d) HX9.out.hd HX9.out.hdw)
          obtain ⟨er, her⟩ : ∃ er, er = V.mergeErr x.d x.t x.l y.d y.t y.l := ⟨_, rfl⟩
          obtain ⟨D, hD⟩ : ∃ D, D = (V.mergeVal x.d x.t x.l y.d y.t y.l).1 := ⟨_, rfl⟩
          obtain ⟨Tm, hTm⟩ : ∃ Tm, Tm = (V.mergeVal x.d x.t x.l y.d y.t y.l).2.1 := ⟨_, rfl⟩
          obtain ⟨L, hL⟩ : ∃ L, L = (V.mergeVal x.d x.t x.l y.d y.t y.l).2.2 := ⟨_, rfl⟩
          rw [← hD, ← hTm, ← her]
          rw [← hL] at hc1
          rw [← hD, ← hL] at HMD
          have HE1 := Lib.hid her
          have HE2 := Lib.hid hD
          have HE3 := Lib.hid hTm
          have HE4 := Lib.hid hL
          clear her hD hTm hL
          have hL2 : L.length ≤ 100000 := by have := HMD.out.2.2; have := HX9.out.len; have := HY9.out.len; omega
          have ho1 := hc1.one
          have hb11 : Below w10.heap.size w10 (w10.alloc (.cells (icells D Tm v1) 26)) := (Below.refl _ w10).alloc (Nat.le_refl _) _
          have hb911 := hb10.trans (hb11.mono hb10.size)
          have HX11 := Lib.hid (HX9.out.below hb911)
          have HY11 := Lib.hid (HY9.out.below hb911)
          have HP11 := Lib.hid (rangeAt_below HP9.out hb911)
          have HC11 := Lib.hid (hc1.below hb11)
          have HG11 : Hid ((w10.alloc (.cells (icells D Tm v1) 26)).heap[w10.heap.size]? = some (.cells (icells D Tm v1) 26 (0, 0))) := Lib.hid (heap_alloc_new w10 _)
          have HB11 := Lib.hid (HB9.out.trans (hb911.mono HB9.out.size))
          have hz11 : w10.heap.size < (w10.alloc (.cells (icells D Tm v1) 26)).heap.size := by simp
          clear hc1 hb10 hb11 hb911 hbw9
          go_wp2_with (first | (refine wl_storeI rfl _ _ rfl _ rfl ⟨D, Tm, v1, L⟩ HMD.out.1 ho1 rfl rfl ?_; clear ho1; generalize hww : w10.alloc (.cells (icells D Tm v1) 26) = w11 at *; clear hww; generalize w10.heap.size = Y1 at *) | (refine wl_loadR rfl _ rfl X 0 rfl x HX11.out.hd (pair_left HP11.out) ?_) | (refine wl_loadR rfl _ rfl X 34 rfl y HY11.out.hd (pair_right HX11.out.hd HP11.out) ?_) | fail)
          have hbw11 : Below w.heap.size w w11 := HB8.out.trans (HB11.out.mono HB8.out.size)
          refine (rmerge_any x.d x.t x.v x.l y.d y.t y.v y.l w11 (HM.out.below hbw11) HX11.out.hd HX11.out.hdw HX11.out.comps (by have := HX11.out.len; omega) HY11.out.hd HY11.out.hdw HY11.out.comps (by have := HY11.out.len; omega)).mono ?_
          rintro e w12 ⟨v2, rfl, hc2, hb12⟩
          rw [← HE2.out, ← HE3.out, ← HE1.out]
          rw [← HE4.out] at hc2
          have ho2 := hc2.one
          have hb13 : Below w12.heap.size w12 (w12.alloc (.cells (icells D Tm v2) 26)) := (Below.refl _ w12).alloc (Nat.le_refl _) _
          have hb1113 := hb12.trans (hb13.mono hb12.size)
          have HC13 := Lib.hid (HC11.out.below hb1113)
          have HD13 := Lib.hid (hc2.below hb13)
          have HG13 := Lib.hid ((hb1113.block Y1 hz11).trans HG11.out)
          have HH13 : Hid ((w12.alloc (.cells (icells D Tm v2) 26)).heap[w12.heap.size]? = some (.cells (icells D Tm v2) 26 (0, 0))) := Lib.hid (heap_alloc_new w12 _)
          have HB13 := Lib.hid (HB11.out.trans (hb1113.mono HB11.out.size))
          clear hc2 hb12 hb13 hb1113 hbw11
          go_wp2_with (first | (refine wl_storeI rfl _ _ rfl _ rfl ⟨D, Tm, v2, L⟩ HMD.out.1 ho2 rfl rfl ?_; clear ho2; generalize hww : w12.alloc (.cells (icells D Tm v2) 26) = w13 at *; clear hww; generalize w12.heap.size = Y2 at *) | (refine wg_loadR rfl _ rfl Y1 0 rfl ⟨D, Tm, v1, L⟩ HMD.out.1 (inv_rangeAll (x := ⟨D, Tm, v1, L⟩) HG13.out) ?_) | (refine wg_loadR rfl _ rfl Y2 0 rfl ⟨D, Tm, v2, L⟩ HMD.out.1 (inv_rangeAll (x := ⟨D, Tm, v2, L⟩) HH13.out) ?_) | fail)
          refine (same_true D Tm v1 v2 L w13 HMD.out.1 HMD.out.2.1 HC13.out HD13.out hL2).mono ?_
          rintro e w14 ⟨rfl, hb14⟩
          have HB14 := Lib.hid (HB13.out.trans (hb14.mono HB13.out.size))
          clear hb14
          go_wp2
          go_roundw
          case rel => exact ⟨j + 1, by omega, by go_num, HB14.out⟩
          case measure => simp [intOf]; omega
        · obtain rfl : j = 3 := by omega
          go_wp2_with fail
          refine (awake19_any _ (HM.out.below HBW8.out)).mono ?_
          rintro e w9 ⟨rfl, hb9⟩
          have HB9 := Lib.hid (HBW8.out.trans (hb9.mono HBW8.out.size))
          clear hb9
          go_wp2
          go_ret
          exact ⟨ret_bool rfl, HB9.out⟩
end Go.Proofs.YtoiabbhppbghdaaDoor

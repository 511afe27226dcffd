/-
  Walk: the maker odd.
-/
import Derived.Test.YtnhfaincdabdkaaGreatDoorIO
import Derived.OrdersHeld
namespace Go.Proofs.YtnhfaincdabdkaaGreatDoor
open Go.RowKit

set_option maxRecDepth 100000 in
set_option maxHeartbeats 25600000 in
theorem odd_any (b k : Nat) (d : List Int) (t : Int) (v : Value) (l : List V.Comp) (w : World) (h : Tape w b k) (hk : k ≤ 1000) (hd : d.length = 32) (hdw : ∀ n ∈ d, (Lit.int .u8 n).wf = true) (hv : Comps w v l) (hl : l.length ≤ 1000) :
    Calls Tryz.prog 55 #[.agg (icells d t v), .pointer (some ⟨b, 0, none⟩)] w (OddPost b l w) := by
  have HT := Lib.hid h
  have hbw := h.lt
  have HV := Lib.hid hv
  have HD := Lib.hid (And.intro hd hdw)
  have HZ0 : Hid ((icells zero32 0 (.slice none 0 0)).size = 34) := Lib.hid (icells_size rfl _ _)
  obtain ⟨va, vc, hve, hjunk⟩ := hv
  subst hve
  clear hjunk h hd hdw
  obtain ⟨W0, hW0⟩ : ∃ W0, W0 = (w.alloc (.cells (icells d t (.slice va l.length vc)) 27)).alloc (.cells (icells zero32 0 (.slice none 0 0)) 27) := ⟨_, rfl⟩
  have hz0 : W0.heap.size = w.heap.size + 2 := by rw [hW0]; simp
  have hb0 : Below w.heap.size w W0 := by rw [hW0]; exact ((Below.refl _ w).alloc (Nat.le_refl _) _).alloc (by simp) _
  have hg0 : W0.heap[w.heap.size]? = some (.cells (icells d t (.slice va l.length vc)) 27 (0, 0)) := by
    rw [hW0, Below.heap_alloc _ _ _ (by simp)]; exact heap_alloc_new w _
  have hg1 : W0.heap[w.heap.size + 1]? = some (.cells (icells zero32 0 (.slice none 0 0)) 27 (0, 0)) := by
    rw [hW0]; have := heap_alloc_new (w.alloc (.cells (icells d t (.slice va l.length vc)) 27)) (.cells (icells zero32 0 (.slice none 0 0)) 27); simpa using this
  have x33 : ((w.alloc (.cells (icells d t (.slice va l.length vc)) 27)).alloc (.cells (icells zero32 0 (.slice none 0 0)) 27)).cell? ⟨w.heap.size, 33, none⟩ = some (.slice va l.length vc) := by
    rw [← hW0, cell_of_row W0 _ 33 _ _ _ hg0]; exact icells_33 HD.out.1 t _
  rw [← zero_inv] at x33
  have hb1 : Below W0.heap.size W0 (W0.alloc (.cells #[] 88)) := (Below.refl _ W0).alloc (Nat.le_refl _) _
  have y33 : (W0.alloc (.cells #[] 88)).cell? ⟨w.heap.size, 33, none⟩ = some (.slice va l.length vc) := by
    rw [cell_of_row _ _ 33 _ _ _ ((hb1.block _ (by omega)).trans hg0)]; exact icells_33 HD.out.1 t _
  have HG0 := Lib.hid ((hb1.block w.heap.size (by omega)).trans hg0)
  have HG1 := Lib.hid ((hb1.block (w.heap.size + 1) (by omega)).trans hg1)
  have HB1 := Lib.hid (hb0.trans (hb1.mono hb0.size))
  have HC0 := Lib.hid (CRow.made0 W0 (Nat.le_refl _))
  rw [hz0] at HC0
  have HV1 := Lib.hid (HV.out.below (HB1.out.mono (Nat.le_refl _)))
  have hz1 : w.heap.size + 2 < (W0.alloc (.cells #[] 88)).heap.size := by simp; omega
  clear hg0 hg1 hb0 hb1
  by_cases hn0 : l.length = 0
  · have e0 : ((l.length : Int) == 0) = true := by rw [beq_iff_eq]; omega
    clear hn0
    go_enter Tryz.func55, Tryz.ntmps55
    go_wp2_with (first | (rw [zero_inv, ← hW0]; clear hW0 x33; refine wl_build0 rfl rfl ?_
                          generalize W0.alloc (.cells #[] 88) = W1 at *)
                       | (refine wl_appendCs rfl _ _ rfl (w.heap.size + 2) (.slice (some ⟨w.heap.size + 2, 0, none⟩) 0 0) [] rfl HC0.out (.slice va l.length vc) l rfl HV1.out (by simp; omega) (by omega) ?_
                          intro v1 w2 hr hg
                          rw [List.nil_append] at hr
                          have hi2 : w2.heap[w.heap.size]? = some (.cells (icells d t (.slice va l.length vc)) 27 (0, 0)) := (hg.block _ (by omega) (fun e => by have := HC0.out.block _ e.symm; omega)).trans HG0.out
                          have hi3 : w2.heap[w.heap.size + 1]? = some (.cells (icells zero32 0 (.slice none 0 0)) 27 (0, 0)) := (hg.block _ (by omega) (fun e => by have := HC0.out.block _ e.symm; omega)).trans HG1.out
                          have hc2 : w2.cell? ⟨w.heap.size, 33, none⟩ = some (.slice va l.length vc) := by rw [cell_of_row w2 _ 33 _ _ _ hi2]; exact icells_33 HD.out.1 _ _
                          have hf2 : w2.frozen? ⟨w.heap.size, 33, none⟩ = false := frozen_row hi2
                          have hbg : Below w.heap.size w w2 := HB1.out.trans ⟨hg.os, hg.tape, hg.output, hg.size, fun q hq => hg.block q (by omega) (fun e => by have := HC0.out.block _ e.symm; omega)⟩
                          have HOI : Hid (OInv w b k w.heap.size d t v1 l (w2.setCell ⟨w.heap.size, 33, none⟩ v1)) := Lib.hid (by
                            have hsg := set_grown w2 w.heap.size 33 v1
                            refine ⟨HD.out.1, HD.out.2, ?_, ?_, hr.kept hsg (fun q e => by cases e; omega), ?_, ?_, hbw, rfl⟩
                            · rw [setCell_heap _ _ hi2, icells_set33 HD.out.1]
                            · rw [Below.heap_setCell _ _ _ _ (show w.heap.size + 1 ≠ w.heap.size by omega)]; exact hi3
                            · exact (HT.out.below hbg).grown hsg (by simp; omega) (fun q e => by cases e; omega)
                            · exact below_grown (hbg.setCell (p := ⟨w.heap.size, 33, none⟩) (Nat.le_refl _) _) (some b))
                          have hv1 := hr.comps.one
                          clear hr hg hi2 hi3 hbg)
                       | (refine wl_set rfl 25 _ _ rfl w.heap.size 33 rfl v1 rfl _ hc2 hf2 comps_size hv1 ?_
                          clear hc2 hf2 hv1
                          generalize w2.setCell ⟨w.heap.size, 33, none⟩ v1 = w3 at *
                          clear HG0 HG1 HB1 HC0 HV1 hz1 y33 hz0 HT HV
                          generalize hXe : w.heap.size = X at *
                          have h32 := HOI.out.cell32
                          have hf32 : w3.frozen? ⟨X, 32, none⟩ = false := frozen_row HOI.out.inv
                          have HPL := Lib.hid (HOI.out.timed (-1) (show l.length ≤ l.length + 1 by omega)))
                       | (refine wl_set rfl 2 _ _ rfl X 32 rfl (.int .i64 (-1)) rfl _ h32 hf32 int64_size rfl ?_) | (refine wl_loadV rfl _ rfl X rfl (icells d (-1) v1) (icells_size HPL.out.hd _ _) HPL.out.inv ?_) | (refine wl_storeV rfl _ _ rfl (X + 1) _ _ HPL.out.res rfl d (-1) v1 HPL.out.hd HPL.out.comps.one rfl HZ0.out ?_) | fail)
    exact HPL.out.post Tryz.results55 rfl rfl
  · have e0 : ((l.length : Int) == 0) = false := by rw [beq_eq_false_iff_ne]; omega
    go_enter Tryz.func55, Tryz.ntmps55
    go_wp2_with (first | (rw [zero_inv, ← hW0]; clear hW0 x33; refine wl_build0 rfl rfl ?_
                          generalize W0.alloc (.cells #[] 88) = W1 at *)
                       | (refine wl_appendCs rfl _ _ rfl (w.heap.size + 2) (.slice (some ⟨w.heap.size + 2, 0, none⟩) 0 0) [] rfl HC0.out (.slice va l.length vc) l rfl HV1.out (by simp; omega) (by omega) ?_
                          intro v1 w2 hr hg
                          rw [List.nil_append] at hr
                          have hi2 : w2.heap[w.heap.size]? = some (.cells (icells d t (.slice va l.length vc)) 27 (0, 0)) := (hg.block _ (by omega) (fun e => by have := HC0.out.block _ e.symm; omega)).trans HG0.out
                          have hi3 : w2.heap[w.heap.size + 1]? = some (.cells (icells zero32 0 (.slice none 0 0)) 27 (0, 0)) := (hg.block _ (by omega) (fun e => by have := HC0.out.block _ e.symm; omega)).trans HG1.out
                          have hc2 : w2.cell? ⟨w.heap.size, 33, none⟩ = some (.slice va l.length vc) := by rw [cell_of_row w2 _ 33 _ _ _ hi2]; exact icells_33 HD.out.1 _ _
                          have hf2 : w2.frozen? ⟨w.heap.size, 33, none⟩ = false := frozen_row hi2
                          have hbg : Below w.heap.size w w2 := HB1.out.trans ⟨hg.os, hg.tape, hg.output, hg.size, fun q hq => hg.block q (by omega) (fun e => by have := HC0.out.block _ e.symm; omega)⟩
                          have HOI : Hid (OInv w b k w.heap.size d t v1 l (w2.setCell ⟨w.heap.size, 33, none⟩ v1)) := Lib.hid (by
                            have hsg := set_grown w2 w.heap.size 33 v1
                            refine ⟨HD.out.1, HD.out.2, ?_, ?_, hr.kept hsg (fun q e => by cases e; omega), ?_, ?_, hbw, rfl⟩
                            · rw [setCell_heap _ _ hi2, icells_set33 HD.out.1]
                            · rw [Below.heap_setCell _ _ _ _ (show w.heap.size + 1 ≠ w.heap.size by omega)]; exact hi3
                            · exact (HT.out.below hbg).grown hsg (by simp; omega) (fun q e => by cases e; omega)
                            · exact below_grown (hbg.setCell (p := ⟨w.heap.size, 33, none⟩) (Nat.le_refl _) _) (some b))
                          have hv1 := hr.comps.one
                          clear hr hg hi2 hi3 hbg)
                       | (refine wl_set rfl 25 _ _ rfl w.heap.size 33 rfl v1 rfl _ hc2 hf2 comps_size hv1 ?_
                          clear hc2 hf2 hv1
                          generalize w2.setCell ⟨w.heap.size, 33, none⟩ v1 = w3 at *
                          clear HG0 HG1 HB1 HC0 HV1 hz1 y33 hz0 HT HV
                          generalize hXe : w.heap.size = X at *
                          have h32 := HOI.out.cell32
                          have hf32 : w3.frozen? ⟨X, 32, none⟩ = false := frozen_row HOI.out.inv
                          have HPL := Lib.hid (HOI.out.timed (-1) (show l.length ≤ l.length + 1 by omega)))
                       | fail)
    clear h32 hf32 HPL
    refine (next_any b k (l.length : Int) w3 HOI.out.tape (by omega) (by omega) (by omega)).mono ?_
    rintro e w4 ⟨kk, hkk, rfl, ht4, hg4⟩
    have HO4 := Lib.hid (HOI.out.next hg4 ht4)
    clear ht4 hg4 HOI
    go_wp2_with fail
    refine (next_any b (k + 1) 7 w4 HO4.out.tape (by omega) (by omega) (by omega)).mono ?_
    rintro e w5 ⟨r7, hr7, rfl, ht5, hg5⟩
    have HO5 := Lib.hid (HO4.out.next hg5 ht5)
    clear ht5 hg5 HO4
    have hv1 : ∃ g cap, v1 = .slice (some ⟨g, 0, none⟩) l.length cap := by
      rcases HO5.out.row.addr with ⟨_, e⟩ | ⟨g, cap, cur, e, _, _⟩
      · exact absurd (by rw [e]; rfl) hn0
      · exact ⟨g, cap, e⟩
    obtain ⟨g, cap, hv1⟩ := hv1
    subst hv1
    have hkl : kk < l.length := by omega
    have hi1 : (0 : Int) ≤ (kk : Int) := by omega
    have hi2 : (kk : Int) < (l.length : Int) := by omega
    have HK : Hid (CompWf l[kk]) := Lib.hid (HO5.out.at_ rfl hkl).1
    have hr8 : r7 = 0 ∨ r7 = 1 ∨ r7 = 2 ∨ r7 = 3 ∨ r7 = 4 ∨ r7 = 5 ∨ r7 = 6 := by omega
    clear hr7 hkk hn0 e0
    rcases hr8 with rfl | rfl | rfl | rfl | rfl | rfl | rfl
    · go_wp2_with fail
      have HO6 : Hid (OInv w b (k + 1 + 1) X d t (.slice (some ⟨g, 0, none⟩) l.length cap) l w5.drew) := Lib.hid (HO5.out.next (drew_grown w5 _) (HO5.out.tape.below (Below.refl _ w5).drew))
      refine wp_region_held (S := fun W => W.cell? ⟨X, 33, none⟩ = some (.slice (some ⟨g, 0, none⟩) l.length cap)) (by kernel_rfl) ?_
      change wpAnyH _ _ _ _ _ _ _ _ (World.drew _)
      generalize w5.drew = w6 at *
      have hS0 := HO6.out.cell33
      refine wpAnyH_take (i := 0) (v := .pointer (some ⟨X, 33, none⟩)) rfl (by kernel_rfl) (by kernel_rfl) (by kernel_rfl) (fun _ _ _ h => h) (Or.inl ⟨by rfl, fun W _ => by go_simp⟩) hS0 ?_
      refine wpAnyH_take (i := 2) (v := .int .i64 (kk : Int)) rfl (by kernel_rfl) (by kernel_rfl) (by kernel_rfl) (fun _ _ _ h => h) (Or.inl ⟨by rfl, fun W _ => by go_simp⟩) hS0 ?_
      refine wpAnyH_take (i := 3) (v := .pointer (some ⟨b, 0, none⟩)) rfl (by kernel_rfl) (by kernel_rfl) (by kernel_rfl) (fun _ _ _ h => h) (Or.inl ⟨by rfl, fun W _ => by go_simp⟩) hS0 ?_
      refine wpAnyH_take (i := 4) (v := .int .i64 (l.length : Int)) rfl (by kernel_rfl) (by kernel_rfl) (by kernel_rfl) (fun _ _ _ h => h) (Or.inl ⟨by rfl, fun W _ => by go_simp⟩) hS0 ?_
      simp only [List.getElem_toArray, List.getElem_cons_succ, List.getElem_cons_zero, Act.put, List.setIfInBounds_toArray, List.set_cons_succ, List.set_cons_zero]
      refine wpAnyH_take (i := 1) (v := .slice (some ⟨g, 0, none⟩) l.length cap) rfl (by kernel_rfl) (by kernel_rfl) (by kernel_rfl) (fun _ _ _ h => h) (Or.inl ⟨by rfl, fun W hS => by
        have hx : W.cell? ⟨X, 33, none⟩ = some (.slice (some ⟨g, 0, none⟩) l.length cap) := hS
        go_simp⟩) hS0 ?_
      have hw1 : IntKind.i64.wrap ((l.length : Int) + 2) = (l.length : Int) + 2 := by rw [IntKind.wrap_i64]; omega
      refine wpAnyH_take (i := 5) (v := .int .i64 ((l.length : Int) + 2)) rfl (by kernel_rfl) (by kernel_rfl) (by kernel_rfl) (fun _ _ _ h => h) (Or.inl ⟨by rfl, fun W _ => by go_simp⟩) hS0 ?_
      simp only [List.getElem_toArray, List.getElem_cons_succ, List.getElem_cons_zero, Act.put, List.setIfInBounds_toArray, List.set_cons_succ, List.set_cons_zero]
      refine wpAnyH_all (rs := [6]) (by kernel_rfl) (by simp) ?_
      intro i hi
      obtain rfl : i = 6 := by simpa using hi
      clear hi
      refine wpOp_step (by rfl) (fun K hK => ?_)
      refine step_call rfl _ #[.pointer (some ⟨b, 0, none⟩), .int .i64 ((l.length : Int) + 2)] (by go_simp) (next_any b (k + 1 + 1) ((l.length : Int) + 2) w6 HO6.out.tape (by omega) (by omega) (by omega)) ?_
      rintro e w7 ⟨r, hr, rfl, ht7, hg7⟩
      have HO7 := Lib.hid (HO6.out.next hg7 ht7)
      refine ⟨_, rfl, hK _ _ ⟨HO7.out.cell33, ?_⟩⟩
      clear hK K hg7 ht7 hw1
      simp only [List.getElem_toArray, List.getElem_cons_succ, List.getElem_cons_zero, Act.put, List.setIfInBounds_toArray, List.set_cons_succ, List.set_cons_zero]
      have hw2 : IntKind.i64.wrap ((r : Int) - 2) = (r : Int) - 2 := by rw [IntKind.wrap_i64]; omega
      refine wpAnyH_take (i := 7) (v := .int .i64 ((r : Int) - 2)) rfl (by kernel_rfl) (by kernel_rfl) (by kernel_rfl) (fun _ _ _ h => h) (Or.inl ⟨by rfl, fun W _ => by go_simp⟩) HO7.out.cell33 ?_
      simp only [List.getElem_toArray, List.getElem_cons_succ, List.getElem_cons_zero, Act.put, List.setIfInBounds_toArray, List.set_cons_succ, List.set_cons_zero]
      refine wpAnyH_take (i := 8) (v := .pointer (some ⟨g, kk * 36, none⟩)) rfl (by kernel_rfl) (by kernel_rfl) (by kernel_rfl) (fun _ _ _ h => h) (Or.inl ⟨by rfl, fun W _ => by go_simp⟩) HO7.out.cell33 ?_
      simp only [List.getElem_toArray, List.getElem_cons_succ, List.getElem_cons_zero, Act.put, List.setIfInBounds_toArray, List.set_cons_succ, List.set_cons_zero]
      refine wpAnyH_take (i := 9) (v := .pointer (some ⟨g, kk * 36, none⟩)) rfl (by kernel_rfl) (by kernel_rfl) (by kernel_rfl) (fun _ _ _ h => h) (Or.inl ⟨by rfl, fun W _ => by go_simp⟩) HO7.out.cell33 ?_
      simp only [List.getElem_toArray, List.getElem_cons_succ, List.getElem_cons_zero, Act.put, List.setIfInBounds_toArray, List.set_cons_succ, List.set_cons_zero]
      have hcu := HO7.out.cellAt rfl hkl (f := 0) (u := .int .i64 l[kk].par) rfl
      have hfu := (HO7.out.at_ rfl hkl).2.2.1 (kk * 36 + 0)
      have HEN := Lib.hid (HO7.out.changed (c := { l[kk] with par := (r : Int) - 2 }) rfl hkl (show 0 < 36 by decide) { HK.out with par := by show (Lit.int .i64 ((r : Int) - 2)).wf = true; exact WalkArith.wf_i64 (by omega) } (set_par l[kk] ((r : Int) - 2)) (show l.length ≤ l.length + 1 by omega))
      refine wpAnyH_all (rs := [10]) (by kernel_rfl) (by simp) ?_
      intro i hi
      obtain rfl : i = 10 := by simpa using hi
      clear hi
      refine wpOp_step (by rfl) (fun K hK => step_set rfl 3 _ _ rfl g (kk * 36 + 0) rfl (.int .i64 ((r : Int) - 2)) rfl _ hcu hfu int_size rfl (hK _ _ ⟨?_, ?_⟩))
      · rw [cell_of_row _ X 33 _ _ _ HEN.out.inv]; exact icells_33 HEN.out.hd _ _
      clear hK K hcu hfu
      refine wpAnyH_done (by kernel_rfl) ?_ _
      generalize w7.setCell ⟨g, kk * 36 + 0, none⟩ (.int .i64 ((r : Int) - 2)) = w9 at *
      simp only [List.getElem_toArray, List.getElem_cons_succ, List.getElem_cons_zero, Act.put]
      go_wp2_with (first | (refine wl_loadV rfl _ rfl X rfl (icells d t (.slice (some ⟨g, 0, none⟩) l.length cap)) (icells_size HEN.out.hd _ _) HEN.out.inv ?_) | (refine wl_storeV rfl _ _ rfl (X + 1) _ _ HEN.out.res rfl d t (.slice (some ⟨g, 0, none⟩) l.length cap) HEN.out.hd HEN.out.comps.one rfl HZ0.out ?_) | fail)
      exact HEN.out.post Tryz.results55 rfl rfl
    · go_wp2_with fail
      have HO6 : Hid (OInv w b (k + 1 + 1) X d t (.slice (some ⟨g, 0, none⟩) l.length cap) l w5.drew) := Lib.hid (HO5.out.next (drew_grown w5 _) (HO5.out.tape.below (Below.refl _ w5).drew))
      refine wp_region_held (S := fun W => W.cell? ⟨X, 33, none⟩ = some (.slice (some ⟨g, 0, none⟩) l.length cap)) (by kernel_rfl) ?_
      change wpAnyH _ _ _ _ _ _ _ _ (World.drew _)
      generalize w5.drew = w6 at *
      have hS0 := HO6.out.cell33
      refine wpAnyH_take (i := 0) (v := .pointer (some ⟨X, 33, none⟩)) rfl (by kernel_rfl) (by kernel_rfl) (by kernel_rfl) (fun _ _ _ h => h) (Or.inl ⟨by rfl, fun W _ => by go_simp⟩) hS0 ?_
      refine wpAnyH_take (i := 2) (v := .int .i64 (kk : Int)) rfl (by kernel_rfl) (by kernel_rfl) (by kernel_rfl) (fun _ _ _ h => h) (Or.inl ⟨by rfl, fun W _ => by go_simp⟩) hS0 ?_
      refine wpAnyH_take (i := 3) (v := .pointer (some ⟨b, 0, none⟩)) rfl (by kernel_rfl) (by kernel_rfl) (by kernel_rfl) (fun _ _ _ h => h) (Or.inl ⟨by rfl, fun W _ => by go_simp⟩) hS0 ?_
      refine wpAnyH_take (i := 4) (v := .pointer (some ⟨b, 0, none⟩)) rfl (by kernel_rfl) (by kernel_rfl) (by kernel_rfl) (fun _ _ _ h => h) (Or.inl ⟨by rfl, fun W _ => by go_simp⟩) hS0 ?_
      simp only [List.getElem_toArray, List.getElem_cons_succ, List.getElem_cons_zero, Act.put, List.setIfInBounds_toArray, List.set_cons_succ, List.set_cons_zero]
      refine wpAnyH_take (i := 1) (v := .slice (some ⟨g, 0, none⟩) l.length cap) rfl (by kernel_rfl) (by kernel_rfl) (by kernel_rfl) (fun _ _ _ h => h) (Or.inl ⟨by rfl, fun W hS => by
        have hx : W.cell? ⟨X, 33, none⟩ = some (.slice (some ⟨g, 0, none⟩) l.length cap) := hS
        go_simp⟩) hS0 ?_
      simp only [List.getElem_toArray, List.getElem_cons_succ, List.getElem_cons_zero, Act.put, List.setIfInBounds_toArray, List.set_cons_succ, List.set_cons_zero]
      refine wpAnyH_all (rs := [5]) (by kernel_rfl) (by simp) ?_
      intro i hi
      obtain rfl : i = 5 := by simpa using hi
      clear hi
      refine wpOp_step (by rfl) (fun K hK => ?_)
      refine step_call rfl _ #[.pointer (some ⟨b, 0, none⟩), .int .i64 3] (by go_simp) (next_any b (k + 1 + 1) 3 w6 HO6.out.tape (by omega) (by omega) (by omega)) ?_
      rintro e w7 ⟨r, hr, rfl, ht7, hg7⟩
      have HO7 := Lib.hid (HO6.out.next hg7 ht7)
      refine ⟨_, rfl, hK _ _ ⟨HO7.out.cell33, ?_⟩⟩
      clear hK K hg7 ht7
      simp only [List.getElem_toArray, List.getElem_cons_succ, List.getElem_cons_zero, Act.put, List.setIfInBounds_toArray, List.set_cons_succ, List.set_cons_zero]
      have hw2 : IntKind.i64.wrap (1 + (r : Int)) = 1 + (r : Int) := by rw [IntKind.wrap_i64]; omega
      refine wpAnyH_take (i := 6) (v := .int .i64 (1 + (r : Int))) rfl (by kernel_rfl) (by kernel_rfl) (by kernel_rfl) (fun _ _ _ h => h) (Or.inl ⟨by rfl, fun W _ => by go_simp⟩) HO7.out.cell33 ?_
      simp only [List.getElem_toArray, List.getElem_cons_succ, List.getElem_cons_zero, Act.put, List.setIfInBounds_toArray, List.set_cons_succ, List.set_cons_zero]
      have hsc : V.scheme (1 + (r : Int)) = true := by
        have h3 : (1 : Int) + (r : Int) = 1 ∨ (1 : Int) + (r : Int) = 2 ∨ (1 : Int) + (r : Int) = 3 := by omega
        unfold V.scheme; rcases h3 with h3 | h3 | h3 <;> rw [h3] <;> rfl
      refine wpAnyH_all (rs := [7]) (by kernel_rfl) (by simp) ?_
      intro i hi
      obtain rfl : i = 7 := by simpa using hi
      clear hi
      refine wpOp_step (by rfl) (fun K hK => ?_)
      refine step_call rfl _ #[.pointer (some ⟨b, 0, none⟩), .int .i64 (1 + (r : Int))] (by go_simp) (version_any b (k + 1 + 1 + 1) (1 + (r : Int)) w7 HO7.out.tape (by omega) hsc) ?_
      rintro e w8 ⟨x, hx, rfl, ht8, hg8⟩
      have HO8 := Lib.hid (HO7.out.next hg8 ht8)
      refine ⟨_, rfl, hK _ _ ⟨HO8.out.cell33, ?_⟩⟩
      clear hK K hg8 ht8
      simp only [List.getElem_toArray, List.getElem_cons_succ, List.getElem_cons_zero, Act.put, List.setIfInBounds_toArray, List.set_cons_succ, List.set_cons_zero]
      refine wpAnyH_take (i := 8) (v := .pointer (some ⟨g, kk * 36, none⟩)) rfl (by kernel_rfl) (by kernel_rfl) (by kernel_rfl) (fun _ _ _ h => h) (Or.inl ⟨by rfl, fun W _ => by go_simp⟩) HO8.out.cell33 ?_
      simp only [List.getElem_toArray, List.getElem_cons_succ, List.getElem_cons_zero, Act.put, List.setIfInBounds_toArray, List.set_cons_succ, List.set_cons_zero]
      refine wpAnyH_take (i := 9) (v := .pointer (some ⟨g, kk * 36 + 3, none⟩)) rfl (by kernel_rfl) (by kernel_rfl) (by kernel_rfl) (fun _ _ _ h => h) (Or.inl ⟨by rfl, fun W _ => by go_simp⟩) HO8.out.cell33 ?_
      simp only [List.getElem_toArray, List.getElem_cons_succ, List.getElem_cons_zero, Act.put, List.setIfInBounds_toArray, List.set_cons_succ, List.set_cons_zero]
      have hcu := HO8.out.cellAt rfl hkl (f := 3) (u := .string ⟨l[kk].ver.toArray⟩) rfl
      have hfu := (HO8.out.at_ rfl hkl).2.2.1 (kk * 36 + 3)
      have HEN := Lib.hid (HO8.out.changed (c := { l[kk] with ver := x }) rfl hkl (show 3 < 36 by decide) { HK.out with ver := by have := V.valid_short hx; unfold maxLen; show x.length ≤ _; omega } (set_ver l[kk] x) (show l.length ≤ l.length + 1 by omega))
      refine wpAnyH_all (rs := [10]) (by kernel_rfl) (by simp) ?_
      intro i hi
      obtain rfl : i = 10 := by simpa using hi
      clear hi
      refine wpOp_step (by rfl) (fun K hK => step_set rfl 9 _ _ rfl g (kk * 36 + 3) rfl (.string ⟨x.toArray⟩) rfl _ hcu hfu string_size rfl (hK _ _ ⟨?_, ?_⟩))
      · rw [cell_of_row _ X 33 _ _ _ HEN.out.inv]; exact icells_33 HEN.out.hd _ _
      clear hK K hcu hfu
      refine wpAnyH_done (by kernel_rfl) ?_ _
      generalize w8.setCell ⟨g, kk * 36 + 3, none⟩ (.string ⟨x.toArray⟩) = w9 at *
      simp only [List.getElem_toArray, List.getElem_cons_succ, List.getElem_cons_zero, Act.put]
      go_wp2_with (first | (refine wl_loadV rfl _ rfl X rfl (icells d t (.slice (some ⟨g, 0, none⟩) l.length cap)) (icells_size HEN.out.hd _ _) HEN.out.inv ?_) | (refine wl_storeV rfl _ _ rfl (X + 1) _ _ HEN.out.res rfl d t (.slice (some ⟨g, 0, none⟩) l.length cap) HEN.out.hd HEN.out.comps.one rfl HZ0.out ?_) | fail)
      exact HEN.out.post Tryz.results55 rfl rfl
    · have hx33 := HO5.out.cell33
      have hcu := HO5.out.cellAt rfl hkl (f := 2) (u := .string ⟨l[kk].name.toArray⟩) rfl
      have hfu := (HO5.out.at_ rfl hkl).2.2.1 (kk * 36 + 2)
      have HEN := Lib.hid (HO5.out.changed (c := { l[kk] with name := [97, 47, 47, 98] }) rfl hkl (show 2 < 36 by decide) { HK.out with name := (by decide : ([97, 47, 47, 98] : V.Bs).length ≤ maxLen) } (set_name l[kk] [97, 47, 47, 98]) (show l.length ≤ l.length + 1 by omega))
      go_wp2_with (first | (refine wl_set rfl 9 _ _ rfl g (kk * 36 + 2) rfl (.string ⟨([97, 47, 47, 98] : V.Bs).toArray⟩) rfl _ hcu hfu string_size rfl ?_) | (refine wl_loadV rfl _ rfl X rfl (icells d t (.slice (some ⟨g, 0, none⟩) l.length cap)) (icells_size HEN.out.hd _ _) HEN.out.inv ?_) | (refine wl_storeV rfl _ _ rfl (X + 1) _ _ HEN.out.res rfl d t (.slice (some ⟨g, 0, none⟩) l.length cap) HEN.out.hd HEN.out.comps.one rfl HZ0.out ?_) | fail)
      exact HEN.out.post Tryz.results55 rfl rfl
    · go_wp2_with fail
      have HO6 : Hid (OInv w b (k + 1 + 1) X d t (.slice (some ⟨g, 0, none⟩) l.length cap) l w5.drew) := Lib.hid (HO5.out.next (drew_grown w5 _) (HO5.out.tape.below (Below.refl _ w5).drew))
      refine wp_region_held (S := fun W => W.cell? ⟨X, 33, none⟩ = some (.slice (some ⟨g, 0, none⟩) l.length cap)) (by kernel_rfl) ?_
      change wpAnyH _ _ _ _ _ _ _ _ (World.drew _)
      generalize w5.drew = w6 at *
      have hS0 := HO6.out.cell33
      refine wpAnyH_take (i := 0) (v := .pointer (some ⟨X, 33, none⟩)) rfl (by kernel_rfl) (by kernel_rfl) (by kernel_rfl) (fun _ _ _ h => h) (Or.inl ⟨by rfl, fun W _ => by go_simp⟩) hS0 ?_
      refine wpAnyH_take (i := 2) (v := .int .i64 (kk : Int)) rfl (by kernel_rfl) (by kernel_rfl) (by kernel_rfl) (fun _ _ _ h => h) (Or.inl ⟨by rfl, fun W _ => by go_simp⟩) hS0 ?_
      refine wpAnyH_take (i := 3) (v := .pointer (some ⟨b, 0, none⟩)) rfl (by kernel_rfl) (by kernel_rfl) (by kernel_rfl) (fun _ _ _ h => h) (Or.inl ⟨by rfl, fun W _ => by go_simp⟩) hS0 ?_
      simp only [List.getElem_toArray, List.getElem_cons_succ, List.getElem_cons_zero, Act.put, List.setIfInBounds_toArray, List.set_cons_succ, List.set_cons_zero]
      refine wpAnyH_take (i := 1) (v := .slice (some ⟨g, 0, none⟩) l.length cap) rfl (by kernel_rfl) (by kernel_rfl) (by kernel_rfl) (fun _ _ _ h => h) (Or.inl ⟨by rfl, fun W hS => by
        have hx : W.cell? ⟨X, 33, none⟩ = some (.slice (some ⟨g, 0, none⟩) l.length cap) := hS
        go_simp⟩) hS0 ?_
      simp only [List.getElem_toArray, List.getElem_cons_succ, List.getElem_cons_zero, Act.put, List.setIfInBounds_toArray, List.set_cons_succ, List.set_cons_zero]
      refine wpAnyH_all (rs := [4]) (by kernel_rfl) (by simp) ?_
      intro i hi
      obtain rfl : i = 4 := by simpa using hi
      clear hi
      refine wpOp_step (by rfl) (fun K hK => ?_)
      refine step_call rfl _ #[.pointer (some ⟨b, 0, none⟩), .int .i64 5] (by go_simp) (next_any b (k + 1 + 1) 5 w6 HO6.out.tape (by omega) (by omega) (by omega)) ?_
      rintro e w7 ⟨r, hr, rfl, ht7, hg7⟩
      have HO7 := Lib.hid (HO6.out.next hg7 ht7)
      refine ⟨_, rfl, hK _ _ ⟨HO7.out.cell33, ?_⟩⟩
      clear hK K hg7 ht7
      simp only [List.getElem_toArray, List.getElem_cons_succ, List.getElem_cons_zero, Act.put, List.setIfInBounds_toArray, List.set_cons_succ, List.set_cons_zero]
      refine wpAnyH_take (i := 5) (v := .pointer (some ⟨g, kk * 36, none⟩)) rfl (by kernel_rfl) (by kernel_rfl) (by kernel_rfl) (fun _ _ _ h => h) (Or.inl ⟨by rfl, fun W _ => by go_simp⟩) HO7.out.cell33 ?_
      simp only [List.getElem_toArray, List.getElem_cons_succ, List.getElem_cons_zero, Act.put, List.setIfInBounds_toArray, List.set_cons_succ, List.set_cons_zero]
      refine wpAnyH_take (i := 6) (v := .pointer (some ⟨g, kk * 36 + 1, none⟩)) rfl (by kernel_rfl) (by kernel_rfl) (by kernel_rfl) (fun _ _ _ h => h) (Or.inl ⟨by rfl, fun W _ => by go_simp⟩) HO7.out.cell33 ?_
      simp only [List.getElem_toArray, List.getElem_cons_succ, List.getElem_cons_zero, Act.put, List.setIfInBounds_toArray, List.set_cons_succ, List.set_cons_zero]
      have hcu := HO7.out.cellAt rfl hkl (f := 1) (u := .int .i64 l[kk].sch) rfl
      have hfu := (HO7.out.at_ rfl hkl).2.2.1 (kk * 36 + 1)
      have HEN := Lib.hid (HO7.out.changed (c := { l[kk] with sch := (r : Int) }) rfl hkl (show 1 < 36 by decide) { HK.out with sch := by show (Lit.int .i64 (r : Int)).wf = true; exact WalkArith.wf_i64 (by omega) } (set_sch l[kk] (r : Int)) (show l.length ≤ l.length + 1 by omega))
      refine wpAnyH_all (rs := [7]) (by kernel_rfl) (by simp) ?_
      intro i hi
      obtain rfl : i = 7 := by simpa using hi
      clear hi
      refine wpOp_step (by rfl) (fun K hK => step_set rfl 3 _ _ rfl g (kk * 36 + 1) rfl (.int .i64 (r : Int)) rfl _ hcu hfu int_size rfl (hK _ _ ⟨?_, ?_⟩))
      · rw [cell_of_row _ X 33 _ _ _ HEN.out.inv]; exact icells_33 HEN.out.hd _ _
      clear hK K hcu hfu
      refine wpAnyH_done (by kernel_rfl) ?_ _
      generalize w7.setCell ⟨g, kk * 36 + 1, none⟩ (.int .i64 (r : Int)) = w9 at *
      simp only [List.getElem_toArray, List.getElem_cons_succ, List.getElem_cons_zero, Act.put]
      go_wp2_with (first | (refine wl_loadV rfl _ rfl X rfl (icells d t (.slice (some ⟨g, 0, none⟩) l.length cap)) (icells_size HEN.out.hd _ _) HEN.out.inv ?_) | (refine wl_storeV rfl _ _ rfl (X + 1) _ _ HEN.out.res rfl d t (.slice (some ⟨g, 0, none⟩) l.length cap) HEN.out.hd HEN.out.comps.one rfl HZ0.out ?_) | fail)
      exact HEN.out.post Tryz.results55 rfl rfl
    · go_wp2_with fail
      have HO6 : Hid (OInv w b (k + 1 + 1) X d t (.slice (some ⟨g, 0, none⟩) l.length cap) l w5.drew) := Lib.hid (HO5.out.next (drew_grown w5 _) (HO5.out.tape.below (Below.refl _ w5).drew))
      refine wp_region_held (S := fun _ => True) (by kernel_rfl) ?_
      change wpAnyH _ _ _ _ _ _ _ _ (World.drew _)
      generalize w5.drew = w6 at *
      refine wpAnyH_take (i := 0) (v := .pointer (some ⟨X, 33, none⟩)) rfl (by kernel_rfl) (by kernel_rfl) (by kernel_rfl) (fun _ _ _ h => h) (Or.inl ⟨by rfl, fun W _ => by go_simp⟩) trivial ?_
      refine wpAnyH_take (i := 2) (v := .pointer (some ⟨X, 33, none⟩)) rfl (by kernel_rfl) (by kernel_rfl) (by kernel_rfl) (fun _ _ _ h => h) (Or.inl ⟨by rfl, fun W _ => by go_simp⟩) trivial ?_
      refine wpAnyH_take (i := 4) (v := .int .i64 (kk : Int)) rfl (by kernel_rfl) (by kernel_rfl) (by kernel_rfl) (fun _ _ _ h => h) (Or.inl ⟨by rfl, fun W _ => by go_simp⟩) trivial ?_
      simp only [List.getElem_toArray, List.getElem_cons_succ, List.getElem_cons_zero, Act.put, List.setIfInBounds_toArray, List.set_cons_succ, List.set_cons_zero]
      have hx6 := HO6.out.cell33
      have hr6 := (HO6.out.at_ rfl hkl).2.1
      have HA6 : Hid (OInv w b (k + 1 + 1) X d t (.slice (some ⟨g, 0, none⟩) l.length cap) l (w6.alloc (.cells (ccells l[kk]) 88))) := Lib.hid (HO6.out.next (World.grownBy_alloc w6 _ (some b)) (HO6.out.tape.below ((Below.refl _ w6).alloc (Nat.le_refl _) _)))
      have hx7 := HA6.out.cell33
      have HCN : Hid (Comps (w6.alloc (.cells (ccells l[kk]) 88)) (.slice (some ⟨w6.heap.size, 0, none⟩) 1 1) [l[kk]]) := Lib.hid ⟨_, 1, rfl, fun j hj => by
        obtain rfl : j = 0 := by simpa using hj
        exact ⟨HK.out, _, 0, rfl, by simp, range_new l[kk] w6 _⟩⟩
      have hsz6 : X + 2 ≤ (w6.alloc (.cells (ccells l[kk]) 88)).heap.size := by have := HO6.out.row.block g rfl; have := (HO6.out.at_ rfl hkl).2.2.2; simp; omega
      refine wpAnyH_all (rs := [1, 3]) (by kernel_rfl) (by simp) ?_
      intro i hi
      have hi3 : i = 1 ∨ i = 3 := by simpa using hi
      clear hi
      rcases hi3 with rfl | rfl
      · skip
        refine wpOp_step (by rfl) (fun K hK => step_get rfl (.slice (some ⟨g, 0, none⟩) l.length cap) (ex_load rfl rfl (by go_simp)) (hK _ _ ⟨trivial, ?_⟩))
        clear hK K
        simp only [List.getElem_toArray, List.getElem_cons_succ, List.getElem_cons_zero, Act.put, List.setIfInBounds_toArray, List.set_cons_succ, List.set_cons_zero]
        refine wpAnyH_all (rs := [3]) (by kernel_rfl) (by simp) ?_
        intro i hi
        obtain rfl : i = 3 := by simpa using hi
        clear hi
        refine wpOp_step (by rfl) (fun K hK => step_get rfl (.slice (some ⟨g, 0, none⟩) l.length cap) (ex_load rfl rfl (by go_simp)) (hK _ _ ⟨trivial, ?_⟩))
        clear hK K
        simp only [List.getElem_toArray, List.getElem_cons_succ, List.getElem_cons_zero, Act.put, List.setIfInBounds_toArray, List.set_cons_succ, List.set_cons_zero]
        refine wpAnyH_take (i := 5) (v := .pointer (some ⟨g, kk * 36, none⟩)) rfl (by kernel_rfl) (by kernel_rfl) (by kernel_rfl) (fun _ _ _ h => h) (Or.inl ⟨by rfl, fun W _ => by go_simp⟩) trivial ?_
        simp only [List.getElem_toArray, List.getElem_cons_succ, List.getElem_cons_zero, Act.put, List.setIfInBounds_toArray, List.set_cons_succ, List.set_cons_zero]
        refine wpAnyH_all (rs := [6]) (by kernel_rfl) (by simp) ?_
        intro i hi
        obtain rfl : i = 6 := by simpa using hi
        clear hi
        refine wpOp_step (by rfl) (fun K hK => step_load rfl _ rfl g (kk * 36) rfl l[kk] HK.out hr6 (hK _ _ ⟨trivial, ?_⟩))
        clear hK K
        simp only [List.getElem_toArray, List.getElem_cons_succ, List.getElem_cons_zero, Act.put, List.setIfInBounds_toArray, List.set_cons_succ, List.set_cons_zero]
        refine wpAnyH_all (rs := [7]) (by kernel_rfl) (by simp) ?_
        intro i hi
        obtain rfl : i = 7 := by simpa using hi
        clear hi
        refine wpOp_step (by rfl) (fun K hK => step_build1 rfl _ rfl l[kk] HK.out rfl (hK _ _ ⟨trivial, ?_⟩))
        clear hK K
        simp only [List.getElem_toArray, List.getElem_cons_succ, List.getElem_cons_zero, Act.put, List.setIfInBounds_toArray, List.set_cons_succ, List.set_cons_zero]
        refine wpAnyH_all (rs := [8]) (by kernel_rfl) (by simp) ?_
        intro i hi
        obtain rfl : i = 8 := by simpa using hi
        clear hi
        refine wpOp_step (by rfl) (fun K hK => step_appendCs rfl _ _ rfl (X + 2) (.slice (some ⟨g, 0, none⟩) l.length cap) l rfl HA6.out.row (.slice (some ⟨w6.heap.size, 0, none⟩) 1 1) [l[kk]] rfl HCN.out (by simp; omega) hsz6 (fun v8 w8 hr8 hg8 => hK _ _ ⟨trivial, ?_⟩))
        clear hK K
        simp only [List.getElem_toArray, List.getElem_cons_succ, List.getElem_cons_zero, Act.put, List.setIfInBounds_toArray, List.set_cons_succ, List.set_cons_zero]
        refine wpAnyH_take (i := 9) (v := .pointer (some ⟨X, 33, none⟩)) rfl (by kernel_rfl) (by kernel_rfl) (by kernel_rfl) (fun _ _ _ h => h) (Or.inl ⟨by rfl, fun W _ => by go_simp⟩) trivial ?_
        simp only [List.getElem_toArray, List.getElem_cons_succ, List.getElem_cons_zero, Act.put, List.setIfInBounds_toArray, List.set_cons_succ, List.set_cons_zero]
        refine wpAnyH_all (rs := [10]) (by kernel_rfl) (by simp) ?_
        intro i hi
        obtain rfl : i = 10 := by simpa using hi
        clear hi
        have HEN := Lib.hid (HA6.out.more hr8 hg8 (show (l ++ [l[kk]]).length ≤ l.length + 1 by simp))
        have hi8 := (hg8.block X (Array.getElem?_eq_some_iff.1 HA6.out.inv).1 (fun e => HA6.out.row.ne HA6.out.inv (by decide) e.symm)).trans HA6.out.inv
        have hc8 : w8.cell? ⟨X, 33, none⟩ = some (.slice (some ⟨g, 0, none⟩) l.length cap) := by rw [cell_of_row w8 X 33 _ _ _ hi8]; exact icells_33 HEN.out.hd _ _
        refine wpOp_step (by rfl) (fun K hK => step_set rfl 25 _ _ rfl X 33 rfl v8 rfl _ hc8 (frozen_row hi8) comps_size hr8.comps.one (hK _ _ ⟨trivial, ?_⟩))
        clear hK K hc8 hi8
        refine wpAnyH_done (by kernel_rfl) ?_ _
        clear hr8 hg8
        generalize w8.setCell ⟨X, 33, none⟩ v8 = w9 at *
        simp only [List.getElem_toArray, List.getElem_cons_succ, List.getElem_cons_zero, Act.put]
        go_wp2_with (first | (refine wl_loadV rfl _ rfl X rfl (icells d t v8) (icells_size HEN.out.hd _ _) HEN.out.inv ?_) | (refine wl_storeV rfl _ _ rfl (X + 1) _ _ HEN.out.res rfl d t v8 HEN.out.hd HEN.out.comps.one rfl HZ0.out ?_) | fail)
        exact HEN.out.post Tryz.results55 rfl rfl
      · skip
        refine wpOp_step (by rfl) (fun K hK => step_get rfl (.slice (some ⟨g, 0, none⟩) l.length cap) (ex_load rfl rfl (by go_simp)) (hK _ _ ⟨trivial, ?_⟩))
        clear hK K
        simp only [List.getElem_toArray, List.getElem_cons_succ, List.getElem_cons_zero, Act.put, List.setIfInBounds_toArray, List.set_cons_succ, List.set_cons_zero]
        refine wpAnyH_take (i := 5) (v := .pointer (some ⟨g, kk * 36, none⟩)) rfl (by kernel_rfl) (by kernel_rfl) (by kernel_rfl) (fun _ _ _ h => h) (Or.inl ⟨by rfl, fun W _ => by go_simp⟩) trivial ?_
        simp only [List.getElem_toArray, List.getElem_cons_succ, List.getElem_cons_zero, Act.put, List.setIfInBounds_toArray, List.set_cons_succ, List.set_cons_zero]
        refine wpAnyH_all (rs := [1, 6]) (by kernel_rfl) (by simp) ?_
        intro i hi
        have hi3 : i = 1 ∨ i = 6 := by simpa using hi
        clear hi
        rcases hi3 with rfl | rfl
        · skip
          refine wpOp_step (by rfl) (fun K hK => step_get rfl (.slice (some ⟨g, 0, none⟩) l.length cap) (ex_load rfl rfl (by go_simp)) (hK _ _ ⟨trivial, ?_⟩))
          clear hK K
          simp only [List.getElem_toArray, List.getElem_cons_succ, List.getElem_cons_zero, Act.put, List.setIfInBounds_toArray, List.set_cons_succ, List.set_cons_zero]
          refine wpAnyH_all (rs := [6]) (by kernel_rfl) (by simp) ?_
          intro i hi
          obtain rfl : i = 6 := by simpa using hi
          clear hi
          refine wpOp_step (by rfl) (fun K hK => step_load rfl _ rfl g (kk * 36) rfl l[kk] HK.out hr6 (hK _ _ ⟨trivial, ?_⟩))
          clear hK K
          simp only [List.getElem_toArray, List.getElem_cons_succ, List.getElem_cons_zero, Act.put, List.setIfInBounds_toArray, List.set_cons_succ, List.set_cons_zero]
          refine wpAnyH_all (rs := [7]) (by kernel_rfl) (by simp) ?_
          intro i hi
          obtain rfl : i = 7 := by simpa using hi
          clear hi
          refine wpOp_step (by rfl) (fun K hK => step_build1 rfl _ rfl l[kk] HK.out rfl (hK _ _ ⟨trivial, ?_⟩))
          clear hK K
          simp only [List.getElem_toArray, List.getElem_cons_succ, List.getElem_cons_zero, Act.put, List.setIfInBounds_toArray, List.set_cons_succ, List.set_cons_zero]
          refine wpAnyH_all (rs := [8]) (by kernel_rfl) (by simp) ?_
          intro i hi
          obtain rfl : i = 8 := by simpa using hi
          clear hi
          refine wpOp_step (by rfl) (fun K hK => step_appendCs rfl _ _ rfl (X + 2) (.slice (some ⟨g, 0, none⟩) l.length cap) l rfl HA6.out.row (.slice (some ⟨w6.heap.size, 0, none⟩) 1 1) [l[kk]] rfl HCN.out (by simp; omega) hsz6 (fun v8 w8 hr8 hg8 => hK _ _ ⟨trivial, ?_⟩))
          clear hK K
          simp only [List.getElem_toArray, List.getElem_cons_succ, List.getElem_cons_zero, Act.put, List.setIfInBounds_toArray, List.set_cons_succ, List.set_cons_zero]
          refine wpAnyH_take (i := 9) (v := .pointer (some ⟨X, 33, none⟩)) rfl (by kernel_rfl) (by kernel_rfl) (by kernel_rfl) (fun _ _ _ h => h) (Or.inl ⟨by rfl, fun W _ => by go_simp⟩) trivial ?_
          simp only [List.getElem_toArray, List.getElem_cons_succ, List.getElem_cons_zero, Act.put, List.setIfInBounds_toArray, List.set_cons_succ, List.set_cons_zero]
          refine wpAnyH_all (rs := [10]) (by kernel_rfl) (by simp) ?_
          intro i hi
          obtain rfl : i = 10 := by simpa using hi
          clear hi
          have HEN := Lib.hid (HA6.out.more hr8 hg8 (show (l ++ [l[kk]]).length ≤ l.length + 1 by simp))
          have hi8 := (hg8.block X (Array.getElem?_eq_some_iff.1 HA6.out.inv).1 (fun e => HA6.out.row.ne HA6.out.inv (by decide) e.symm)).trans HA6.out.inv
          have hc8 : w8.cell? ⟨X, 33, none⟩ = some (.slice (some ⟨g, 0, none⟩) l.length cap) := by rw [cell_of_row w8 X 33 _ _ _ hi8]; exact icells_33 HEN.out.hd _ _
          refine wpOp_step (by rfl) (fun K hK => step_set rfl 25 _ _ rfl X 33 rfl v8 rfl _ hc8 (frozen_row hi8) comps_size hr8.comps.one (hK _ _ ⟨trivial, ?_⟩))
          clear hK K hc8 hi8
          refine wpAnyH_done (by kernel_rfl) ?_ _
          clear hr8 hg8
          generalize w8.setCell ⟨X, 33, none⟩ v8 = w9 at *
          simp only [List.getElem_toArray, List.getElem_cons_succ, List.getElem_cons_zero, Act.put]
          go_wp2_with (first | (refine wl_loadV rfl _ rfl X rfl (icells d t v8) (icells_size HEN.out.hd _ _) HEN.out.inv ?_) | (refine wl_storeV rfl _ _ rfl (X + 1) _ _ HEN.out.res rfl d t v8 HEN.out.hd HEN.out.comps.one rfl HZ0.out ?_) | fail)
          exact HEN.out.post Tryz.results55 rfl rfl
        · skip
          refine wpOp_step (by rfl) (fun K hK => step_load rfl _ rfl g (kk * 36) rfl l[kk] HK.out hr6 (hK _ _ ⟨trivial, ?_⟩))
          clear hK K
          simp only [List.getElem_toArray, List.getElem_cons_succ, List.getElem_cons_zero, Act.put, List.setIfInBounds_toArray, List.set_cons_succ, List.set_cons_zero]
          refine wpAnyH_all (rs := [1, 7]) (by kernel_rfl) (by simp) ?_
          intro i hi
          have hi3 : i = 1 ∨ i = 7 := by simpa using hi
          clear hi
          rcases hi3 with rfl | rfl
          · skip
            refine wpOp_step (by rfl) (fun K hK => step_get rfl (.slice (some ⟨g, 0, none⟩) l.length cap) (ex_load rfl rfl (by go_simp)) (hK _ _ ⟨trivial, ?_⟩))
            clear hK K
            simp only [List.getElem_toArray, List.getElem_cons_succ, List.getElem_cons_zero, Act.put, List.setIfInBounds_toArray, List.set_cons_succ, List.set_cons_zero]
            refine wpAnyH_all (rs := [7]) (by kernel_rfl) (by simp) ?_
            intro i hi
            obtain rfl : i = 7 := by simpa using hi
            clear hi
            refine wpOp_step (by rfl) (fun K hK => step_build1 rfl _ rfl l[kk] HK.out rfl (hK _ _ ⟨trivial, ?_⟩))
            clear hK K
            simp only [List.getElem_toArray, List.getElem_cons_succ, List.getElem_cons_zero, Act.put, List.setIfInBounds_toArray, List.set_cons_succ, List.set_cons_zero]
            refine wpAnyH_all (rs := [8]) (by kernel_rfl) (by simp) ?_
            intro i hi
            obtain rfl : i = 8 := by simpa using hi
            clear hi
            refine wpOp_step (by rfl) (fun K hK => step_appendCs rfl _ _ rfl (X + 2) (.slice (some ⟨g, 0, none⟩) l.length cap) l rfl HA6.out.row (.slice (some ⟨w6.heap.size, 0, none⟩) 1 1) [l[kk]] rfl HCN.out (by simp; omega) hsz6 (fun v8 w8 hr8 hg8 => hK _ _ ⟨trivial, ?_⟩))
            clear hK K
            simp only [List.getElem_toArray, List.getElem_cons_succ, List.getElem_cons_zero, Act.put, List.setIfInBounds_toArray, List.set_cons_succ, List.set_cons_zero]
            refine wpAnyH_take (i := 9) (v := .pointer (some ⟨X, 33, none⟩)) rfl (by kernel_rfl) (by kernel_rfl) (by kernel_rfl) (fun _ _ _ h => h) (Or.inl ⟨by rfl, fun W _ => by go_simp⟩) trivial ?_
            simp only [List.getElem_toArray, List.getElem_cons_succ, List.getElem_cons_zero, Act.put, List.setIfInBounds_toArray, List.set_cons_succ, List.set_cons_zero]
            refine wpAnyH_all (rs := [10]) (by kernel_rfl) (by simp) ?_
            intro i hi
            obtain rfl : i = 10 := by simpa using hi
            clear hi
            have HEN := Lib.hid (HA6.out.more hr8 hg8 (show (l ++ [l[kk]]).length ≤ l.length + 1 by simp))
            have hi8 := (hg8.block X (Array.getElem?_eq_some_iff.1 HA6.out.inv).1 (fun e => HA6.out.row.ne HA6.out.inv (by decide) e.symm)).trans HA6.out.inv
            have hc8 : w8.cell? ⟨X, 33, none⟩ = some (.slice (some ⟨g, 0, none⟩) l.length cap) := by rw [cell_of_row w8 X 33 _ _ _ hi8]; exact icells_33 HEN.out.hd _ _
            refine wpOp_step (by rfl) (fun K hK => step_set rfl 25 _ _ rfl X 33 rfl v8 rfl _ hc8 (frozen_row hi8) comps_size hr8.comps.one (hK _ _ ⟨trivial, ?_⟩))
            clear hK K hc8 hi8
            refine wpAnyH_done (by kernel_rfl) ?_ _
            clear hr8 hg8
            generalize w8.setCell ⟨X, 33, none⟩ v8 = w9 at *
            simp only [List.getElem_toArray, List.getElem_cons_succ, List.getElem_cons_zero, Act.put]
            go_wp2_with (first | (refine wl_loadV rfl _ rfl X rfl (icells d t v8) (icells_size HEN.out.hd _ _) HEN.out.inv ?_) | (refine wl_storeV rfl _ _ rfl (X + 1) _ _ HEN.out.res rfl d t v8 HEN.out.hd HEN.out.comps.one rfl HZ0.out ?_) | fail)
            exact HEN.out.post Tryz.results55 rfl rfl
          · skip
            refine wpOp_step (by rfl) (fun K hK => step_build1 rfl _ rfl l[kk] HK.out rfl (hK _ _ ⟨trivial, ?_⟩))
            clear hK K
            simp only [List.getElem_toArray, List.getElem_cons_succ, List.getElem_cons_zero, Act.put, List.setIfInBounds_toArray, List.set_cons_succ, List.set_cons_zero]
            refine wpAnyH_all (rs := [1]) (by kernel_rfl) (by simp) ?_
            intro i hi
            obtain rfl : i = 1 := by simpa using hi
            clear hi
            refine wpOp_step (by rfl) (fun K hK => step_get rfl (.slice (some ⟨g, 0, none⟩) l.length cap) (ex_load rfl rfl (by go_simp)) (hK _ _ ⟨trivial, ?_⟩))
            clear hK K
            simp only [List.getElem_toArray, List.getElem_cons_succ, List.getElem_cons_zero, Act.put, List.setIfInBounds_toArray, List.set_cons_succ, List.set_cons_zero]
            refine wpAnyH_all (rs := [8]) (by kernel_rfl) (by simp) ?_
            intro i hi
            obtain rfl : i = 8 := by simpa using hi
            clear hi
            refine wpOp_step (by rfl) (fun K hK => step_appendCs rfl _ _ rfl (X + 2) (.slice (some ⟨g, 0, none⟩) l.length cap) l rfl HA6.out.row (.slice (some ⟨w6.heap.size, 0, none⟩) 1 1) [l[kk]] rfl HCN.out (by simp; omega) hsz6 (fun v8 w8 hr8 hg8 => hK _ _ ⟨trivial, ?_⟩))
            clear hK K
            simp only [List.getElem_toArray, List.getElem_cons_succ, List.getElem_cons_zero, Act.put, List.setIfInBounds_toArray, List.set_cons_succ, List.set_cons_zero]
            refine wpAnyH_take (i := 9) (v := .pointer (some ⟨X, 33, none⟩)) rfl (by kernel_rfl) (by kernel_rfl) (by kernel_rfl) (fun _ _ _ h => h) (Or.inl ⟨by rfl, fun W _ => by go_simp⟩) trivial ?_
            simp only [List.getElem_toArray, List.getElem_cons_succ, List.getElem_cons_zero, Act.put, List.setIfInBounds_toArray, List.set_cons_succ, List.set_cons_zero]
            refine wpAnyH_all (rs := [10]) (by kernel_rfl) (by simp) ?_
            intro i hi
            obtain rfl : i = 10 := by simpa using hi
            clear hi
            have HEN := Lib.hid (HA6.out.more hr8 hg8 (show (l ++ [l[kk]]).length ≤ l.length + 1 by simp))
            have hi8 := (hg8.block X (Array.getElem?_eq_some_iff.1 HA6.out.inv).1 (fun e => HA6.out.row.ne HA6.out.inv (by decide) e.symm)).trans HA6.out.inv
            have hc8 : w8.cell? ⟨X, 33, none⟩ = some (.slice (some ⟨g, 0, none⟩) l.length cap) := by rw [cell_of_row w8 X 33 _ _ _ hi8]; exact icells_33 HEN.out.hd _ _
            refine wpOp_step (by rfl) (fun K hK => step_set rfl 25 _ _ rfl X 33 rfl v8 rfl _ hc8 (frozen_row hi8) comps_size hr8.comps.one (hK _ _ ⟨trivial, ?_⟩))
            clear hK K hc8 hi8
            refine wpAnyH_done (by kernel_rfl) ?_ _
            clear hr8 hg8
            generalize w8.setCell ⟨X, 33, none⟩ v8 = w9 at *
            simp only [List.getElem_toArray, List.getElem_cons_succ, List.getElem_cons_zero, Act.put]
            go_wp2_with (first | (refine wl_loadV rfl _ rfl X rfl (icells d t v8) (icells_size HEN.out.hd _ _) HEN.out.inv ?_) | (refine wl_storeV rfl _ _ rfl (X + 1) _ _ HEN.out.res rfl d t v8 HEN.out.hd HEN.out.comps.one rfl HZ0.out ?_) | fail)
            exact HEN.out.post Tryz.results55 rfl rfl
    · obtain ⟨W8, hW8⟩ : ∃ W8, W8 = w5.setCells X 0 (dcells zero32).toList := ⟨_, rfl⟩
      have HEN : Hid (OEnd w b X zero32 t (.slice (some ⟨g, 0, none⟩) l.length cap) l (l.length + 1) W8) := Lib.hid (by rw [hW8]; exact HO5.out.zeroed (show l.length ≤ l.length + 1 by omega))
      have hth : w5.there X 0 32 := fun j hj => by
        have hj' : j < 32 := hj
        refine ⟨?_, frozen_row HO5.out.inv⟩
        rw [cell_of_row w5 X (0 + j) _ _ _ HO5.out.inv, Array.getElem?_eq_getElem (by rw [icells_size HO5.out.hd]; omega)]
        rfl
      have HW8 := Lib.hid hW8
      clear hW8
      go_wp2_with (first | (refine wl_store_dig rfl _ _ rfl X 0 zero32 rfl rfl rfl hth W8 HW8.out ?_) | (refine wl_loadV rfl _ rfl X rfl (icells zero32 t (.slice (some ⟨g, 0, none⟩) l.length cap)) (icells_size HEN.out.hd _ _) HEN.out.inv ?_) | (refine wl_storeV rfl _ _ rfl (X + 1) _ _ HEN.out.res rfl zero32 t (.slice (some ⟨g, 0, none⟩) l.length cap) HEN.out.hd HEN.out.comps.one rfl HZ0.out ?_) | fail)
      exact HEN.out.post Tryz.results55 rfl rfl
    · go_wp2_with fail
      refine (next_any b (k + 1 + 1) 2 w5 HO5.out.tape (by omega) (by omega) (by omega)).mono ?_
      rintro e w6 ⟨r, hr, rfl, ht6, hg6⟩
      have HO6 := Lib.hid (HO5.out.next hg6 ht6)
      have h32 := HO6.out.cell32
      have hf32 : w6.frozen? ⟨X, 32, none⟩ = false := frozen_row HO6.out.inv
      have hw2 : IntKind.i64.wrap (1099511627776 + (r : Int)) = 1099511627776 + (r : Int) := by rw [IntKind.wrap_i64]; omega
      have HEN := Lib.hid (HO6.out.timed (1099511627776 + (r : Int)) (show l.length ≤ l.length + 1 by omega))
      clear ht6 hg6
      go_wp2_with (first | (refine wl_set rfl 2 _ _ rfl X 32 rfl (.int .i64 (1099511627776 + (r : Int))) rfl _ h32 hf32 int64_size rfl ?_) | (refine wl_loadV rfl _ rfl X rfl (icells d (1099511627776 + (r : Int)) (.slice (some ⟨g, 0, none⟩) l.length cap)) (icells_size HEN.out.hd _ _) HEN.out.inv ?_) | (refine wl_storeV rfl _ _ rfl (X + 1) _ _ HEN.out.res rfl d (1099511627776 + (r : Int)) (.slice (some ⟨g, 0, none⟩) l.length cap) HEN.out.hd HEN.out.comps.one rfl HZ0.out ?_) | fail)
      exact HEN.out.post Tryz.results55 rfl rfl
end Go.Proofs.YtnhfaincdabdkaaGreatDoor

/-
  Walk: the reference's Merge.
-/
import Derived.Test.YtoiabbhppbghdaaDoorIE
import Derived.Test.YtoiabbhppbghdaaDoorIK
import Derived.Test.YtoiabbhppbghdaaDoorIL
import Derived.OrdersHeld
namespace Go.Proofs.YtoiabbhppbghdaaDoor
open Go.RowKit

set_option maxRecDepth 100000 in
set_option maxHeartbeats 3200000 in
theorem rmerge_any (d : List Int) (t : Int) (v : Value) (l : List V.Comp) (d' : List Int) (t' : Int) (v' : Value) (l' : List V.Comp) (w : World) (hm : MaxOk w)
    (hd : d.length = 32) (hdw : ∀ n ∈ d, (Lit.int .u8 n).wf = true) (hv : Comps w v l) (hl : l.length ≤ 100000)
    (hd' : d'.length = 32) (hdw' : ∀ n ∈ d', (Lit.int .u8 n).wf = true) (hv' : Comps w v' l') (hl' : l'.length ≤ 100000) :
    Calls Tryd.prog 22 #[.agg (icells d t v), .agg (icells d' t' v')] w (MergePost d t l d' t' l' w) := by
  have HM := Lib.hid hm
  have HL := Lib.hid hv
  have HL' := Lib.hid hv'
  have HSZ := Lib.hid (icells_size hd t v)
  have HSZ' := Lib.hid (icells_size hd' t' v')
  have HD := Lib.hid (And.intro hd hdw)
  have HD' := Lib.hid (And.intro hd' hdw')
  obtain ⟨W0, hW0⟩ : ∃ W0, W0 = ((w.alloc (.cells (icells d t v) 26)).alloc (.cells (icells d' t' v') 26)).alloc (.cells (icells zero32 0 (.slice none 0 0)) 26) := ⟨_, rfl⟩
  have hsz : W0.heap.size = w.heap.size + 3 := by rw [hW0]; simp
  have HB0 : Hid (Below w.heap.size w W0) := Lib.hid (by
    rw [hW0]; exact (((Below.refl _ w).alloc (Nat.le_refl _) _).alloc (by simp) _).alloc (by simp; omega) _)
  have HG0 : Hid (W0.heap[w.heap.size]? = some (.cells (icells d t v) 26 (0, 0))) := Lib.hid (by
    rw [hW0, Below.heap_alloc _ _ _ (by simp; omega), Below.heap_alloc _ _ _ (by simp)]; exact heap_alloc_new w _)
  have HG1 : Hid (W0.heap[w.heap.size + 1]? = some (.cells (icells d' t' v') 26 (0, 0))) := Lib.hid (by
    rw [hW0, Below.heap_alloc _ _ _ (by simp)]; have := heap_alloc_new (w.alloc (.cells (icells d t v) 26)) (.cells (icells d' t' v') 26); simpa using this)
  have HG2 : Hid (W0.heap[w.heap.size + 1 + 1]? = some (.cells (icells zero32 0 (.slice none 0 0)) 26 (0, 0))) := Lib.hid (by
    rw [hW0]; have := heap_alloc_new ((w.alloc (.cells (icells d t v) 26)).alloc (.cells (icells d' t' v') 26)) (.cells (icells zero32 0 (.slice none 0 0)) 26); simpa using this)
  clear hm hd hdw hv hd' hdw' hv'
  go_enter Tryd.func22, Tryd.ntmps22
  have HZ0 : Hid ((icells zero32 0 (.slice none 0 0)).size = 34) := Lib.hid (icells_size rfl _ _)
  have HEX : Hid (∀ (k : Int) (W : World), V.mergeErr d t l d' t' l' = k → ¬ k = 0 → Below w.heap.size w W → W.heap[w.heap.size + 1 + 1]? = some (.cells (icells zero32 0 (.slice none 0 0)) 26 (0, 0)) →
      ∀ fn : Func, fn.results = #[.cell 4 26, .tmp 5] → ∀ a : Act, a.tmps.getD 4 undef = .pointer (some ⟨w.heap.size + 1 + 1, 0, none⟩) → a.tmps.getD 5 undef = .int .i64 k → a.defers = [] →
      bodyPost Tryd.prog fn (MergePost d t l d' t' l' w) .ret a W) := Lib.hid (by
    intro k W hk hk0 hb hg fn hfn a h4 h5 h6
    refine bodyPost_ret (results_two hfn h4 h5 (run_loadVar_row _ _ _ _ _ (0, 0) _ hg Tryd.underlying26 rfl (by rw [invInfo, HZ0.out]))) h6 ?_
    have hv : V.mergeVal d t l d' t' l' = (zero32, 0, []) := by unfold V.mergeVal; rw [if_neg (by rw [hk]; exact hk0)]
    refine ⟨.slice none 0 0, ?_, ?_, hb⟩
    · rw [hv, hk]
    · rw [hv]; exact Comps.nil _)
  go_wp2_with (first | (rw [zero_inv, ← hW0]; clear hW0; refine wl_loadV rfl _ rfl w.heap.size rfl (icells d t v) HSZ.out HG0.out ?_) | fail)
  refine (rvalid19_any d t v l _ (HM.out.below HB0.out) HD.out.1 HD.out.2 (HL.out.below (HB0.out.mono (Nat.le_refl _))) (by unfold maxLen; omega)).mono ?_
  rintro e w1 ⟨rfl, hb1⟩
  have HB1 := Lib.hid (HB0.out.trans (hb1.mono HB0.out.size))
  have hz1 : w.heap.size + 3 ≤ w1.heap.size := by have := hb1.size; omega
  have HG01 := Lib.hid ((hb1.block _ (by omega)).trans HG0.out)
  have HG11 := Lib.hid ((hb1.block _ (by omega)).trans HG1.out)
  have HG21 := Lib.hid ((hb1.block _ (by omega)).trans HG2.out)
  clear hb1
  rcases hok : V.invOk d t l with _ | _
  · have HER : Hid (V.mergeErr d t l d' t' l' = 1) := Lib.hid (by unfold V.mergeErr; rw [if_neg (by rw [hok]; simp)])
    have HS1 := Lib.hid (setRow_heap w1 _ _ (icells zero32 0 (.slice none 0 0)) _ _ HG21.out)
    have HSB1 : Hid (Below w.heap.size w (w1.setRow (w.heap.size + 1 + 1) (icells zero32 0 (.slice none 0 0)))) := Lib.hid (HB1.out.trans (grown_below (setRow_grown w1 _ _) (by omega) (by omega)))
    clear hok
    go_wp2_with (first | (refine wl_storeV rfl _ _ rfl _ _ _ HG21.out rfl zero32 0 (.slice none 0 0) rfl rfl rfl HZ0.out ?_) | fail)
    exact HEX.out 1 _ HER.out (by decide) HSB1.out HS1.out _ Tryd.results22 _ rfl rfl rfl
  · go_wp2_with (first | (refine wg_loadI rfl _ rfl (w.heap.size + 1) rfl (icells d' t' v') HSZ'.out HG11.out ?_) | fail)
    refine (rvalid19_any d' t' v' l' _ (HM.out.below HB1.out) HD'.out.1 HD'.out.2 (HL'.out.below (HB1.out.mono (Nat.le_refl _))) (by unfold maxLen; omega)).mono ?_
    rintro e w2 ⟨rfl, hb2⟩
    have HB2 := Lib.hid (HB1.out.trans (hb2.mono HB1.out.size))
    have hz2 : w.heap.size + 3 ≤ w2.heap.size := by have := hb2.size; omega
    have HG02 := Lib.hid ((hb2.block _ (by omega)).trans HG01.out)
    have HG12 := Lib.hid ((hb2.block _ (by omega)).trans HG11.out)
    have HG22 := Lib.hid ((hb2.block _ (by omega)).trans HG21.out)
    clear hb2 hz1 HG01 HG11 HG21 HG0 HG1 HG2
    rcases hok2 : V.invOk d' t' l' with _ | _
    · have HER : Hid (V.mergeErr d t l d' t' l' = 1) := Lib.hid (by unfold V.mergeErr; rw [if_neg (by rw [hok2]; simp)])
      have HS1 := Lib.hid (setRow_heap w2 _ _ (icells zero32 0 (.slice none 0 0)) _ _ HG22.out)
      have HSB1 : Hid (Below w.heap.size w (w2.setRow (w.heap.size + 1 + 1) (icells zero32 0 (.slice none 0 0)))) := Lib.hid (HB2.out.trans (grown_below (setRow_grown w2 _ _) (by omega) (by omega)))
      clear hok hok2
      go_wp2_with (first | (refine wl_storeV rfl _ _ rfl _ _ _ HG22.out rfl zero32 0 (.slice none 0 0) rfl rfl rfl HZ0.out ?_) | fail)
      exact HEX.out 1 _ HER.out (by decide) HSB1.out HS1.out _ Tryd.results22 _ rfl rfl rfl
    · have HR := Lib.hid (inv_range HD.out.1 HG02.out)
      have HR' := Lib.hid (inv_range HD'.out.1 HG12.out)
      have HI : Hid ((Tryd.prog.info? 23).map (·.size) = some (dcellsL d).length) := Lib.hid (by rw [digInfo]; unfold dcellsL; simp [HD.out.1])
      have HI' : Hid ((Tryd.prog.info? 23).map (·.size) = some (dcellsL d').length) := Lib.hid (by rw [digInfo]; unfold dcellsL; simp [HD'.out.1])
      have HQ : Hid (∀ w, (Op.equalIn 10000 23 (.agg (dcells d)) (.agg (dcells d'))).run Tryd.prog w = .ok (decide (d = d')) w) := Lib.hid (fun w => eq_dig HD.out.1 HD.out.2 HD'.out.1 HD'.out.2 w)
      rcases hdd : decide (d = d') with _ | _
      · have HER : Hid (V.mergeErr d t l d' t' l' = 9) := Lib.hid (by unfold V.mergeErr; rw [if_pos ⟨hok, hok2⟩, if_neg (of_decide_eq_false hdd)])
        rw [hdd] at HQ
        have HS1 := Lib.hid (setRow_heap w2 _ _ (icells zero32 0 (.slice none 0 0)) _ _ HG22.out)
        have HSB1 : Hid (Below w.heap.size w (w2.setRow (w.heap.size + 1 + 1) (icells zero32 0 (.slice none 0 0)))) := Lib.hid (HB2.out.trans (grown_below (setRow_grown w2 _ _) (by omega) (by omega)))
        clear hok hok2 hdd
        go_wp2_with (first | (refine wpList_load_mid rfl 23 _ rfl w.heap.size 0 rfl (dcellsL d) _ HR.out Tryd.underlying23 rfl HI.out ?_) | (refine wpList_load_mid rfl 23 _ rfl (w.heap.size + 1) 0 rfl (dcellsL d') _ HR'.out Tryd.underlying23 rfl HI'.out ?_) | (refine wl_neq rfl 23 23 _ _ rfl (dcells d) (dcells d') rfl rfl guard_dig false (HQ.out _) ?_) | (refine wl_storeV rfl _ _ rfl _ _ _ HG22.out rfl zero32 0 (.slice none 0 0) rfl rfl rfl HZ0.out ?_) | fail)
        exact HEX.out 9 _ HER.out (by decide) HSB1.out HS1.out _ Tryd.results22 _ rfl rfl rfl
      · obtain rfl : d = d' := of_decide_eq_true hdd
        have HER : Hid (V.mergeErr d t l d t' l' = if 128 < (V.mergeL l l').length then 3 else 0) := Lib.hid (by unfold V.mergeErr; rw [if_pos ⟨hok, hok2⟩, if_pos rfl])
        rw [hdd] at HQ
        have HO1 : Hid (V.compsTo l l.length = true ∧ l.length ≤ 128 ∧ 0 ≤ t ∧ t ≤ 1099511627776) := Lib.hid (V.invOk_parts hok)
        have HO2 : Hid (V.compsTo l' l'.length = true ∧ l'.length ≤ 128 ∧ 0 ≤ t' ∧ t' ≤ 1099511627776) := Lib.hid (V.invOk_parts hok2)
        clear hok hok2 hdd
        go_wp2_with (first | (refine wpList_load_mid rfl 23 _ rfl w.heap.size 0 rfl (dcellsL d) _ HR.out Tryd.underlying23 rfl HI.out ?_) | (refine wpList_load_mid rfl 23 _ rfl (w.heap.size + 1) 0 rfl (dcellsL d) _ HR'.out Tryd.underlying23 rfl HI'.out ?_) | (refine wl_neq rfl 23 23 _ _ rfl (dcells d) (dcells d) rfl rfl guard_dig true (HQ.out _) ?_) | fail)
        have hc0 : w2.cell? ⟨w.heap.size, 32, none⟩ = some (.int .i64 t) := by rw [cell_of_row w2 _ 32 _ _ _ HG02.out]; exact icells_32 HD.out.1 t v
        have hc1 : w2.cell? ⟨w.heap.size + 1, 32, none⟩ = some (.int .i64 t') := by rw [cell_of_row w2 _ 32 _ _ _ HG12.out]; exact icells_32 HD.out.1 t' v'
        have hc2 : w2.cell? ⟨w.heap.size, 33, none⟩ = some v := by rw [cell_of_row w2 _ 33 _ _ _ HG02.out]; exact icells_33 HD.out.1 t v
        refine wp_region_held (S := fun W => Below w2.heap.size w2 W) (by kernel_rfl) ?_
        have hS0 : Below w2.heap.size w2 w2.drew := (Below.refl _ w2).drew
        change wpAnyH _ _ _ _ _ _ _ _ (World.drew _)
        have HC3 := Lib.hid ((HL.out.below HB2.out).below hS0)
        generalize w2.drew = w3 at *
        obtain ⟨mx, hmx⟩ : ∃ mx, mx = max t t' := ⟨_, rfl⟩
        refine wpAnyH_take (i := 0) (v := .pointer (some ⟨w.heap.size, 0, none⟩)) rfl (by kernel_rfl) (by kernel_rfl) (by kernel_rfl) (fun _ _ _ h => h) (Or.inl ⟨by rfl, fun w _ => by go_simp⟩) hS0 ?_
        refine wpAnyH_take (i := 2) (v := .pointer (some ⟨w.heap.size, 32, none⟩)) rfl (by kernel_rfl) (by kernel_rfl) (by kernel_rfl) (fun _ _ _ h => h) (Or.inl ⟨by rfl, fun w _ => by go_simp⟩) hS0 ?_
        refine wpAnyH_take (i := 4) (v := .pointer (some ⟨w.heap.size + 1, 32, none⟩)) rfl (by kernel_rfl) (by kernel_rfl) (by kernel_rfl) (fun _ _ _ h => h) (Or.inl ⟨by rfl, fun w _ => by go_simp⟩) hS0 ?_
        refine wpAnyH_take (i := 8) (v := .pointer (some ⟨w.heap.size, 33, none⟩)) rfl (by kernel_rfl) (by kernel_rfl) (by kernel_rfl) (fun _ _ _ h => h) (Or.inl ⟨by rfl, fun w _ => by go_simp⟩) hS0 ?_
        simp only [List.getElem_toArray, List.getElem_cons_succ, List.getElem_cons_zero, Act.put, List.setIfInBounds_toArray, List.set_cons_succ, List.set_cons_zero]
        refine wpAnyH_take (i := 1) (v := .agg (dcells d)) rfl (by kernel_rfl) (by kernel_rfl) (by kernel_rfl) (fun _ _ _ h => h) (Or.inl ⟨by rfl, fun W hS => ex_load rfl rfl (load_dig HD.out.1 (fun i u hu => (hS.cell (p := ⟨w.heap.size, 0 + i, none⟩) (show w.heap.size < w2.heap.size by omega)).trans (HR.out i u hu)))⟩) hS0 ?_
        refine wpAnyH_take (i := 3) (v := .int .i64 t) rfl (by kernel_rfl) (by kernel_rfl) (by kernel_rfl) (fun _ _ _ h => h) (Or.inl ⟨by rfl, fun W hS => by
          have hx := (hS.cell (p := ⟨w.heap.size, 32, none⟩) (show w.heap.size < w2.heap.size by omega)).trans hc0
          go_simp⟩) hS0 ?_
        refine wpAnyH_take (i := 5) (v := .int .i64 t') rfl (by kernel_rfl) (by kernel_rfl) (by kernel_rfl) (fun _ _ _ h => h) (Or.inl ⟨by rfl, fun W hS => by
          have hx := (hS.cell (p := ⟨w.heap.size + 1, 32, none⟩) (show w.heap.size + 1 < w2.heap.size by omega)).trans hc1
          go_simp⟩) hS0 ?_
        refine wpAnyH_take (i := 9) (v := v) rfl (by kernel_rfl) (by kernel_rfl) (by kernel_rfl) (fun _ _ _ h => h) (Or.inl ⟨by rfl, fun W hS => by
          have hx := (hS.cell (p := ⟨w.heap.size, 33, none⟩) (show w.heap.size < w2.heap.size by omega)).trans hc2
          go_simp⟩) hS0 ?_
        simp only [List.getElem_toArray, List.getElem_cons_succ, List.getElem_cons_zero, Act.put, List.setIfInBounds_toArray, List.set_cons_succ, List.set_cons_zero]
        refine wpAnyH_take (i := 6) (v := .int .i64 mx) rfl (by kernel_rfl) (by kernel_rfl) (by kernel_rfl) (fun _ _ _ h => h) (Or.inl ⟨by rfl, fun W hS => by
          go_simp⟩) hS0 ?_
        simp only [List.getElem_toArray, List.getElem_cons_succ, List.getElem_cons_zero, Act.put, List.setIfInBounds_toArray, List.set_cons_succ, List.set_cons_zero]
        refine wpAnyH_all (rs := [7, 12]) (by kernel_rfl) (by simp) ?_
        intro i hi
        have hi2 : i = 7 ∨ i = 12 := by simpa using hi
        clear hi
        rcases hi2 with rfl | rfl
        case' inr =>
          refine wpOp_step (by rfl) (fun K hK => step_allocV rfl rfl (hK _ _ ⟨hS0.alloc hS0.size _, ?_⟩))
          clear hK K
          simp only [List.getElem_toArray, List.getElem_cons_succ, List.getElem_cons_zero, Act.put, List.setIfInBounds_toArray, List.set_cons_succ, List.set_cons_zero]
          have hg3 : (w3.alloc (.cells (icells zero32 0 (.slice none 0 0)) 26)).heap[w3.heap.size]? = some (.cells (icells zero32 0 (.slice none 0 0)) 26 (0, 0)) := heap_alloc_new w3 _
          have hSB := hS0.alloc hS0.size (.cells (icells zero32 0 (.slice none 0 0)) 26)
          have hCB : Comps (w3.alloc (.cells (icells zero32 0 (.slice none 0 0)) 26)) v l := HC3.out.below ((Below.refl _ w3).alloc (Nat.le_refl _) _)
          have hzO := hS0.size
          generalize w3.alloc (.cells (icells zero32 0 (.slice none 0 0)) 26) = wB at *
          generalize w3.heap.size = O at *
          refine wpAnyH_all (rs := [7]) (by kernel_rfl) (by simp) ?_
          intro i hi
          obtain rfl : i = 7 := by simpa using hi
          clear hi
          refine wpOp_step (by rfl) (fun K hK => step_build0 rfl rfl (hK _ _ ⟨hSB.alloc hSB.size _, ?_⟩))
          clear hK K
          simp only [List.getElem_toArray, List.getElem_cons_succ, List.getElem_cons_zero, Act.put, List.setIfInBounds_toArray, List.set_cons_succ, List.set_cons_zero]
          have hSC := hSB.alloc hSB.size (.cells #[] 35)
          have hcr0 := CRow.made0 wB hSB.size
          have hCC : Comps (wB.alloc (.cells #[] 35)) v l := hCB.below ((Below.refl _ wB).alloc (Nat.le_refl _) _)
          replace hg3 := (Below.heap_alloc wB (.cells #[] 35) O (Array.getElem?_eq_some_iff.1 hg3).1).trans hg3
          clear hCB hSB
          generalize wB.alloc (.cells #[] 35) = wC at *
          generalize wB.heap.size = g0 at *
          refine wpAnyH_all (rs := [10]) (by kernel_rfl) (by simp) ?_
          intro i hi
          obtain rfl : i = 10 := by simpa using hi
          clear hi
          refine wpOp_step (by rfl) (fun K hK => step_appendCs rfl _ _ rfl w2.heap.size (.slice (some ⟨g0, 0, none⟩) 0 0) [] rfl hcr0 v l rfl hCC (by simp; omega) hSC.size (fun v4 w6 hcr hg6 => hK _ _ ⟨?hb6, ?rest⟩))
          case hb6 => exact hSC.grown hg6 hSC.size (by intro k hk; exact hcr0.block k hk)
          clear hK K
          rw [List.nil_append] at hcr
          have hS6 := hSC.grown hg6 hSC.size (by intro k hk; exact hcr0.block k hk)
          have hg4 : w6.heap[O]? = some (.cells (icells zero32 0 (.slice none 0 0)) 26 (0, 0)) := (hg6.block O (Array.getElem?_eq_some_iff.1 hg3).1 (fun e => hcr0.ne hg3 (by decide) e.symm)).trans hg3
          obtain ⟨va4, vc4, hv4, hjunk⟩ := hcr.comps
          subst hv4
          clear hjunk
          simp only [List.getElem_toArray, List.getElem_cons_succ, List.getElem_cons_zero, Act.put, List.setIfInBounds_toArray, List.set_cons_succ, List.set_cons_zero]
          refine wpAnyH_take (i := 11) (v := .agg (icells d mx (.slice va4 l.length vc4))) rfl (by kernel_rfl) (by kernel_rfl) (by kernel_rfl) (fun _ _ _ h => h) (Or.inl ⟨by rfl, fun W _ => by
            refine ex_build (parts := #[(0, .tmp 27), (1, .tmp 32), (2, .tmp 36)]) rfl ?_
            simp only [List.map_toArray, List.map_cons, List.map_nil]
            exact built_inv HD.out.1 mx va4 l.length vc4⟩) hS6 ?_
          simp only [List.getElem_toArray, List.getElem_cons_succ, List.getElem_cons_zero, Act.put, List.setIfInBounds_toArray, List.set_cons_succ, List.set_cons_zero]
          refine wpAnyH_all (rs := [13]) (by kernel_rfl) (by simp) ?_
          intro i hi
          obtain rfl : i = 13 := by simpa using hi
          clear hi
          have hz4 : w2.heap.size ≤ O := hzO
          have hS5 : Below w2.heap.size w2 ((w6).setRow O (icells d mx (.slice va4 l.length vc4))) := hS6.trans (grown_below (setRow_grown _ _ _) hz4 hS6.size)
          have hg5 := setRow_heap _ _ _ (icells d mx (.slice va4 l.length vc4)) _ _ hg4
          have hcr5 : CRow ((w6).setRow O (icells d mx (.slice va4 l.length vc4))) w2.heap.size (.slice va4 l.length vc4) l := hcr.kept2 (setRow_grown _ _ _) (fun b e h => by cases e; exact hcr.ne hg4 (by decide) h)
          have hO5 : O < ((w6).setRow O (icells d mx (.slice va4 l.length vc4))).heap.size := (Array.getElem?_eq_some_iff.1 hg5).1
          refine wpOp_step (by rfl) (fun K hK => step_storeV rfl _ _ rfl O _ _ hg4 rfl d mx (.slice va4 l.length vc4) HD.out.1 rfl rfl HZ0.out (hK _ _ ⟨hS5, ?_⟩))
          clear hK K
          refine wpAnyH_done (by kernel_rfl) ?_ _
          generalize (w6).setRow O (icells d mx (.slice va4 l.length vc4)) = w5 at *
          clear hg4 hcr hg6 hS6 hSC hcr0 hCC hg3 hzO
          simp only [List.getElem_toArray, List.getElem_cons_succ, List.getElem_cons_zero, Act.put, List.setIfInBounds_toArray, List.set_cons_succ, List.set_cons_zero]
        case' inl =>
          refine wpOp_step (by rfl) (fun K hK => step_build0 rfl rfl (hK _ _ ⟨hS0.alloc hS0.size _, ?_⟩))
          clear hK K
          simp only [List.getElem_toArray, List.getElem_cons_succ, List.getElem_cons_zero, Act.put, List.setIfInBounds_toArray, List.set_cons_succ, List.set_cons_zero]
          have hSB := hS0.alloc hS0.size (.cells #[] 35)
          have hcr0 := CRow.made0 w3 hS0.size
          have hCB : Comps (w3.alloc (.cells #[] 35)) v l := HC3.out.below ((Below.refl _ w3).alloc (Nat.le_refl _) _)
          generalize w3.alloc (.cells #[] 35) = wB at *
          generalize w3.heap.size = g0 at *
          refine wpAnyH_all (rs := [10, 12]) (by kernel_rfl) (by simp) ?_
          intro i hi
          have hi2 : i = 10 ∨ i = 12 := by simpa using hi
          clear hi
          rcases hi2 with rfl | rfl
          case' inl =>
            refine wpOp_step (by rfl) (fun K hK => step_appendCs rfl _ _ rfl w2.heap.size (.slice (some ⟨g0, 0, none⟩) 0 0) [] rfl hcr0 v l rfl hCB (by simp; omega) hSB.size (fun v4 w6 hcr hg6 => hK _ _ ⟨?hb6, ?rest⟩))
            case hb6 => exact hSB.grown hg6 hSB.size (by intro k hk; exact hcr0.block k hk)
            clear hK K
            rw [List.nil_append] at hcr
            have hS6 := hSB.grown hg6 hSB.size (by intro k hk; exact hcr0.block k hk)
            obtain ⟨va4, vc4, hv4, hjunk⟩ := hcr.comps
            subst hv4
            clear hjunk
            simp only [List.getElem_toArray, List.getElem_cons_succ, List.getElem_cons_zero, Act.put, List.setIfInBounds_toArray, List.set_cons_succ, List.set_cons_zero]
            refine wpAnyH_take (i := 11) (v := .agg (icells d mx (.slice va4 l.length vc4))) rfl (by kernel_rfl) (by kernel_rfl) (by kernel_rfl) (fun _ _ _ h => h) (Or.inl ⟨by rfl, fun W _ => by
              refine ex_build (parts := #[(0, .tmp 27), (1, .tmp 32), (2, .tmp 36)]) rfl ?_
              simp only [List.map_toArray, List.map_cons, List.map_nil]
              exact built_inv HD.out.1 mx va4 l.length vc4⟩) hS6 ?_
            simp only [List.getElem_toArray, List.getElem_cons_succ, List.getElem_cons_zero, Act.put, List.setIfInBounds_toArray, List.set_cons_succ, List.set_cons_zero]
            refine wpAnyH_all (rs := [12]) (by kernel_rfl) (by simp) ?_
            intro i hi
            obtain rfl : i = 12 := by simpa using hi
            clear hi
            refine wpOp_step (by rfl) (fun K hK => step_allocV rfl rfl (hK _ _ ⟨hS6.alloc hS6.size _, ?_⟩))
            clear hK K
            simp only [List.getElem_toArray, List.getElem_cons_succ, List.getElem_cons_zero, Act.put, List.setIfInBounds_toArray, List.set_cons_succ, List.set_cons_zero]
            have hg4 : (w6.alloc (.cells (icells zero32 0 (.slice none 0 0)) 26)).heap[w6.heap.size]? = some (.cells (icells zero32 0 (.slice none 0 0)) 26 (0, 0)) := heap_alloc_new w6 _
            have hSA := hS6.alloc hS6.size (.cells (icells zero32 0 (.slice none 0 0)) 26)
            refine wpAnyH_all (rs := [13]) (by kernel_rfl) (by simp) ?_
            intro i hi
            obtain rfl : i = 13 := by simpa using hi
            clear hi
            have hz4 : w2.heap.size ≤ w6.heap.size := hS6.size
            have hS5 : Below w2.heap.size w2 ((w6.alloc (.cells (icells zero32 0 (.slice none 0 0)) 26)).setRow w6.heap.size (icells d mx (.slice va4 l.length vc4))) := hSA.trans (grown_below (setRow_grown _ _ _) hz4 hSA.size)
            have hg5 := setRow_heap _ _ _ (icells d mx (.slice va4 l.length vc4)) _ _ hg4
            have hcr5 : CRow ((w6.alloc (.cells (icells zero32 0 (.slice none 0 0)) 26)).setRow w6.heap.size (icells d mx (.slice va4 l.length vc4))) w2.heap.size (.slice va4 l.length vc4) l := ((hcr.kept2 (row := none) (World.grownBy_alloc w6 _ none) (by intro b e; cases e)).kept2 (setRow_grown _ _ _) (fun b e h => by cases e; have := hcr.lt h; omega))
            have hO5 : w6.heap.size < ((w6.alloc (.cells (icells zero32 0 (.slice none 0 0)) 26)).setRow w6.heap.size (icells d mx (.slice va4 l.length vc4))).heap.size := (Array.getElem?_eq_some_iff.1 hg5).1
            refine wpOp_step (by rfl) (fun K hK => step_storeV rfl _ _ rfl w6.heap.size _ _ hg4 rfl d mx (.slice va4 l.length vc4) HD.out.1 rfl rfl HZ0.out (hK _ _ ⟨hS5, ?_⟩))
            clear hK K
            refine wpAnyH_done (by kernel_rfl) ?_ _
            generalize (w6.alloc (.cells (icells zero32 0 (.slice none 0 0)) 26)).setRow w6.heap.size (icells d mx (.slice va4 l.length vc4)) = w5 at *
            clear hg4 hSA hcr hg6 hS6 hSB hcr0 hCB
            generalize w6.heap.size = O at *
            simp only [List.getElem_toArray, List.getElem_cons_succ, List.getElem_cons_zero, Act.put, List.setIfInBounds_toArray, List.set_cons_succ, List.set_cons_zero]
          case' inr =>
            refine wpOp_step (by rfl) (fun K hK => step_allocV rfl rfl (hK _ _ ⟨hSB.alloc hSB.size _, ?_⟩))
            clear hK K
            simp only [List.getElem_toArray, List.getElem_cons_succ, List.getElem_cons_zero, Act.put, List.setIfInBounds_toArray, List.set_cons_succ, List.set_cons_zero]
            have hg3 : (wB.alloc (.cells (icells zero32 0 (.slice none 0 0)) 26)).heap[wB.heap.size]? = some (.cells (icells zero32 0 (.slice none 0 0)) 26 (0, 0)) := heap_alloc_new wB _
            have hSC := hSB.alloc hSB.size (.cells (icells zero32 0 (.slice none 0 0)) 26)
            replace hcr0 := hcr0.kept2 (row := none) (World.grownBy_alloc wB (.cells (icells zero32 0 (.slice none 0 0)) 26) none) (by intro b e; cases e)
            have hCC : Comps (wB.alloc (.cells (icells zero32 0 (.slice none 0 0)) 26)) v l := hCB.below ((Below.refl _ wB).alloc (Nat.le_refl _) _)
            have hzO := hSB.size
            clear hCB hSB
            generalize wB.alloc (.cells (icells zero32 0 (.slice none 0 0)) 26) = wC at *
            generalize wB.heap.size = O at *
            refine wpAnyH_all (rs := [10]) (by kernel_rfl) (by simp) ?_
            intro i hi
            obtain rfl : i = 10 := by simpa using hi
            clear hi
            refine wpOp_step (by rfl) (fun K hK => step_appendCs rfl _ _ rfl w2.heap.size (.slice (some ⟨g0, 0, none⟩) 0 0) [] rfl hcr0 v l rfl hCC (by simp; omega) hSC.size (fun v4 w6 hcr hg6 => hK _ _ ⟨?hb6, ?rest⟩))
            case hb6 => exact hSC.grown hg6 hSC.size (by intro k hk; exact hcr0.block k hk)
            clear hK K
            rw [List.nil_append] at hcr
            have hS6 := hSC.grown hg6 hSC.size (by intro k hk; exact hcr0.block k hk)
            have hg4 : w6.heap[O]? = some (.cells (icells zero32 0 (.slice none 0 0)) 26 (0, 0)) := (hg6.block O (Array.getElem?_eq_some_iff.1 hg3).1 (fun e => hcr0.ne hg3 (by decide) e.symm)).trans hg3
            obtain ⟨va4, vc4, hv4, hjunk⟩ := hcr.comps
            subst hv4
            clear hjunk
            simp only [List.getElem_toArray, List.getElem_cons_succ, List.getElem_cons_zero, Act.put, List.setIfInBounds_toArray, List.set_cons_succ, List.set_cons_zero]
            refine wpAnyH_take (i := 11) (v := .agg (icells d mx (.slice va4 l.length vc4))) rfl (by kernel_rfl) (by kernel_rfl) (by kernel_rfl) (fun _ _ _ h => h) (Or.inl ⟨by rfl, fun W _ => by
              refine ex_build (parts := #[(0, .tmp 27), (1, .tmp 32), (2, .tmp 36)]) rfl ?_
              simp only [List.map_toArray, List.map_cons, List.map_nil]
              exact built_inv HD.out.1 mx va4 l.length vc4⟩) hS6 ?_
            simp only [List.getElem_toArray, List.getElem_cons_succ, List.getElem_cons_zero, Act.put, List.setIfInBounds_toArray, List.set_cons_succ, List.set_cons_zero]
            refine wpAnyH_all (rs := [13]) (by kernel_rfl) (by simp) ?_
            intro i hi
            obtain rfl : i = 13 := by simpa using hi
            clear hi
            have hz4 : w2.heap.size ≤ O := hzO
            have hS5 : Below w2.heap.size w2 ((w6).setRow O (icells d mx (.slice va4 l.length vc4))) := hS6.trans (grown_below (setRow_grown _ _ _) hz4 hS6.size)
            have hg5 := setRow_heap _ _ _ (icells d mx (.slice va4 l.length vc4)) _ _ hg4
            have hcr5 : CRow ((w6).setRow O (icells d mx (.slice va4 l.length vc4))) w2.heap.size (.slice va4 l.length vc4) l := hcr.kept2 (setRow_grown _ _ _) (fun b e h => by cases e; exact hcr.ne hg4 (by decide) h)
            have hO5 : O < ((w6).setRow O (icells d mx (.slice va4 l.length vc4))).heap.size := (Array.getElem?_eq_some_iff.1 hg5).1
            refine wpOp_step (by rfl) (fun K hK => step_storeV rfl _ _ rfl O _ _ hg4 rfl d mx (.slice va4 l.length vc4) HD.out.1 rfl rfl HZ0.out (hK _ _ ⟨hS5, ?_⟩))
            clear hK K
            refine wpAnyH_done (by kernel_rfl) ?_ _
            generalize (w6).setRow O (icells d mx (.slice va4 l.length vc4)) = w5 at *
            clear hg4 hcr hg6 hS6 hSC hcr0 hCC hg3 hzO
            simp only [List.getElem_toArray, List.getElem_cons_succ, List.getElem_cons_zero, Act.put, List.setIfInBounds_toArray, List.set_cons_succ, List.set_cons_zero]
        all_goals
          have HRI : Hid (RInv w2 O d mx (.slice va4 l.length vc4) l (.slice none 0 0) [] w5) := Lib.hid ⟨hcr5, hg5, ZRow.nil _ _, hS5, hz4⟩
          have HH : Hid (∀ W, Below w2.heap.size w2 W → Below w.heap.size w W) := Lib.hid (fun W h => HB2.out.trans (h.mono HB2.out.size))
          have HX33 : Hid (w2.cell? ⟨w.heap.size + 1, 33, none⟩ = some v') := Lib.hid (by rw [cell_of_row w2 _ 33 _ _ _ HG12.out]; exact icells_33 HD.out.1 t' v')
          have HMX := Lib.hid hmx
          have hl128 := HO2.out.2.1
          obtain ⟨va', vc', hve', hjunk⟩ := HL'.out
          subst hve'
          clear hcr5 hg5 hS5 hmx hjunk hO5 HG02 HG12 HR HI HR' HI' HQ hc0 hc1 hc2 hS0 HC3
          go_wp2_with fail
          go_loopw [7, 8] (fun pv jv W => ∃ (k : Nat) (vo : Value), k ≤ l'.length ∧ jv = .int .i64 k ∧ RInv w2 O d mx vo (V.mergeTo l l' k).1 pv (V.mergeTo l l' k).2 W) (fun _ jv _ => l'.length - (intOf jv).toNat)
          case atStart => exact ⟨0, _, Nat.zero_le _, rfl, HRI.out⟩
          case round =>
            obtain ⟨k, vo, hk, rfl, hri⟩ := hrel
            have hst := V.mergeTo_len (a := l) (b := l') k hk
            have hol := V.mergeTo_out (a := l) (b := l') k hk
            have HST := Lib.hid (V.mergeTo_st (a := l) (b := l') k hk)
            obtain ⟨vao, vco, hvo, hjunk⟩ := hri.row.comps
            subst hvo
            obtain ⟨pa, pc, hpv⟩ := hri.place.slice
            subst hpv
            have hllen := HO1.out.2.1
            have hw33 := (hri.below.cell (p := ⟨w.heap.size + 1, 33, none⟩) (show w.heap.size + 1 < w2.heap.size by omega)).trans HX33.out
            clear hjunk HRI
            by_cases hlt : k < l'.length
            · have HSTEP := Lib.hid (V.mergeTo_step (a := l) hlt)
              obtain ⟨hdw, g, off, hva, hgl, hgr⟩ := HL'.out.at k hlt
              subst hva
              have hpar := (V.compAt_iff.1 (V.compsTo_at HO2.out.1 hlt)).2
              have hp1 := hpar.1
              have hp2 := hpar.2.1
              have HC := Lib.hid hdw
              have HCR := Lib.hid (rangeAt_below hgr (HH.out _ hri.below))
              have HMI := Lib.hid hri
              clear hdw hgr hpar hri
              generalize l'[k] = c at *
              generalize V.mergeTo l l' k = s at *
              obtain ⟨out, st⟩ := s
              simp only at hst hol HST HMI HSTEP HCR hw33
              have hX1 : (wr.alloc (.cells (ccells c) 35)).heap[wr.heap.size]? = some (.cells (ccells c) 35 (0, 0)) := heap_alloc_new wr _
              have HM1 := Lib.hid (HMI.out.alloc (.cells (ccells c) 35))
              have hx0 : (wr.alloc (.cells (ccells c) 35)).cell? ⟨wr.heap.size, 0, none⟩ = some (.int .i64 c.par) := by rw [cell_of_row _ _ 0 _ _ _ hX1]; exact ccells_0 c
              have hxf : (wr.alloc (.cells (ccells c) 35)).frozen? ⟨wr.heap.size, 0, none⟩ = false := frozen_row hX1
              have HXN := Lib.hid hX1
              have HWF : Hid (CompWf (V.moved st c)) := Lib.hid (moved_wf HC.out (fun x hx => by
                obtain ⟨q, rfl, hq⟩ := HST.out x hx
                exact nat_wf (by omega)))
              have HSTEP2 : Hid (V.mergeTo l l' (k + 1) = if V.moved st c ∈ out then (out, st ++ [ixOf out (V.moved st c)]) else (out ++ [V.moved st c], st ++ [(out.length : Int)])) := Lib.hid (by rw [HSTEP.out]; unfold V.mStep; rfl)
              have hi3 : (0 : Int) ≤ (k : Int) := by omega
              have hi4 : (k : Int) < (l'.length : Int) := by omega
              clear hX1 HSTEP
              by_cases hp0 : 0 ≤ c.par
              case' pos =>
                obtain ⟨m, hm⟩ := Int.eq_ofNat_of_zero_le hp0
                have hm' : c.par = (m : Int) := hm
                have hmk : m < st.length := by omega
                obtain ⟨q, hq1, hq2⟩ := HST.out st[m] (List.getElem_mem hmk)
                obtain ⟨gp, cap, hpe, hsm⟩ := HM1.out.place.get hmk
                cases hpe
                rw [hq1] at hsm
                have hmv : V.moved st c = { c with par := (q : Int) } := by
                  unfold V.moved
                  rw [if_pos hp0, hm', Int.toNat_natCast, List.getD_eq_getElem?_getD, List.getElem?_eq_getElem hmk, hq1]
                  rfl
                have HX3 : Hid ((wr.alloc (.cells ((ccells c).setIfInBounds 0 (.int .i64 (q : Int))) 35)).heap[wr.heap.size]? = some (.cells (ccells (V.moved st c)) 35 (0, 0))) := Lib.hid (by rw [hmv, ← ccells_set0]; exact heap_alloc_new wr _)
                have HM3 := Lib.hid (HMI.out.alloc (.cells ((ccells c).setIfInBounds 0 (.int .i64 (q : Int))) 35))
                have hX3 : wr.heap.size < (wr.alloc (.cells ((ccells c).setIfInBounds 0 (.int .i64 (q : Int))) 35)).heap.size := by simp
                have hi33 := HM3.out.invCell HD.out.1
                have hi1 : (0 : Int) ≤ (m : Int) := by omega
                have hi2 : (m : Int) < (st.length : Int) := by omega
                rw [hm'] at hx0
                clear hm hm' hmv hq1
                go_wp2_with (first | (refine wl_load rfl _ rfl g (off + k * 36) rfl c HC.out HCR.out ?_) | (refine wl_store rfl _ _ rfl _ _ rfl c HC.out rfl rfl ?_) | (refine wl_load rfl _ rfl wr.heap.size 0 rfl (V.moved st c) HWF.out (range_row HX3.out) ?_) | fail)
                clear hx0 hsm hxf hi33
                generalize wr.alloc (.cells ((ccells c).setIfInBounds 0 (.int .i64 (q : Int))) 35) = w3 at *
              case' neg =>
                have hmv : V.moved st c = c := by unfold V.moved; rw [if_neg hp0]
                have HX3 : Hid ((wr.alloc (.cells (ccells c) 35)).heap[wr.heap.size]? = some (.cells (ccells (V.moved st c)) 35 (0, 0))) := Lib.hid (by rw [hmv]; exact HXN.out)
                have HM3 := HM1
                have hX3 : wr.heap.size < (wr.alloc (.cells (ccells c) 35)).heap.size := by simp
                have hi33 := HM3.out.invCell HD.out.1
                have hi1 : (0 : Int) ≤ (k : Int) := by omega
                have hi2 : (k : Int) < (l'.length : Int) := by omega
                clear hmv
                go_wp2_with (first | (refine wl_load rfl _ rfl g (off + k * 36) rfl c HC.out HCR.out ?_) | (refine wl_store rfl _ _ rfl _ _ rfl c HC.out rfl rfl ?_) | (refine wl_load rfl _ rfl wr.heap.size 0 rfl (V.moved st c) HWF.out (range_row HX3.out) ?_) | fail)
                clear hx0 hxf hi33
                generalize wr.alloc (.cells (ccells c) 35) = w3 at *
              all_goals
                clear HXN HM1 hi1 hi2 hi3 hi4 hp0 hp1 hp2 hw33
                refine (rindex_any _ out (V.moved st c) w3 HM3.out.row.comps HWF.out (by omega)).mono ?_
                rintro e w4 ⟨rfl, hb4⟩
                have HM4 := Lib.hid (HM3.out.call hb4)
                have HX4 := Lib.hid ((hb4.block _ hX3).trans HX3.out)
                have hkn : st.length < l'.length := by omega
                clear HM3 HX3 hb4 hX3
                obtain ⟨X, hX⟩ : ∃ X, X = wr.heap.size := ⟨_, rfl⟩
                rw [← hX] at HX4 ⊢
                clear hX
                by_cases hmem : V.moved st c ∈ out
                · obtain ⟨q', hix, hq', _⟩ := V.ixOf_mem hmem
                  have HNEXT : Hid (V.mergeTo l l' (k + 1) = (out, st ++ [(q' : Int)])) := Lib.hid (by rw [HSTEP2.out, if_pos hmem, hix])
                  have HA := Lib.hid (HM4.out.alloc (.cells #[.int .i64 (q' : Int)] 3))
                  rw [hst] at HA
                  have hcq : (w4.alloc (.cells #[.int .i64 (q' : Int)] 3)).cell? ⟨w4.heap.size, 0, none⟩ = some (.int .i64 (q' : Int)) := by rw [World.cell?_alloc_new]; rfl
                  rw [hix]
                  clear hix hmem
                  go_wp2_with (first | (refine wl_appendZ rfl _ _ rfl w2.heap.size _ st rfl HA.out.place w4.heap.size (q' : Int) rfl hcq (by omega) HA.out.below.size ?_
                                        intro v8 w8 hz8 hg8
                                        have HM9 := Lib.hid (HA.out.push hz8 hg8)
                                        obtain ⟨za, zc, hz⟩ := hz8.slice
                                        subst hz
                                        rw [show (st ++ [(q' : Int)]).length = k + 1 by simp [hst]] at HM9 ⊢
                                        clear hz8 hg8) | fail)
                  refine ⟨?_, ?_⟩
                  · iterate 44 (apply Exists.intro)
                    refine ⟨?_, rfl⟩
                    exact ⟨k + 1, _, by omega, by go_num, by rw [HNEXT.out]; exact HM9.out⟩
                  · simp [intOf]; omega
                · have hix := ixOf_none hmem
                  have HNEXT : Hid (V.mergeTo l l' (k + 1) = (out ++ [V.moved st c], st ++ [(out.length : Int)])) := Lib.hid (by rw [HSTEP2.out, if_neg hmem])
                  have hi4 := HM4.out.invCell HD.out.1
                  have HA := Lib.hid (HM4.out.alloc (.cells (ccells (V.moved st c)) 35))
                  have HRN := Lib.hid (range_new (V.moved st c) w4 35)
                  rw [hix]
                  clear hix hmem HSTEP2
                  go_wp2_with (first | (refine wl_load rfl _ rfl X 0 rfl (V.moved st c) HWF.out (range_row HX4.out) ?_)
                                     | (refine wl_build1 rfl _ rfl (V.moved st c) HWF.out rfl ?_)
                                     | (refine wl_appendC rfl _ _ rfl w2.heap.size (.slice vao out.length vco) out rfl HA.out.row w4.heap.size (V.moved st c) HWF.out rfl HRN.out (by omega) HA.out.below.size ?_
                                        intro v8 w8 hr8 hg8
                                        have hk8 := HA.out.invKept hg8
                                        have hc8 : w8.cell? ⟨O, 33, none⟩ = some (.slice vao out.length vco) := by rw [cell_of_row w8 O 33 _ _ _ hk8]; exact icells_33 HD.out.1 _ _
                                        have hf8 : w8.frozen? ⟨O, 33, none⟩ = false := frozen_row hk8
                                        have HM9 := Lib.hid (HA.out.append HD.out.1 hr8 hg8)
                                        obtain ⟨va8, vc8, hv8, hjunk⟩ := hr8.comps
                                        subst hv8
                                        rw [show (out ++ [V.moved st c]).length = out.length + 1 by simp] at HM9 ⊢
                                        clear hr8 hg8 hk8 hjunk hi4)
                                     | (refine wl_set rfl 24 _ _ rfl O 33 rfl (.slice va8 (out.length + 1) vc8) rfl _ hc8 hf8 comps_size rfl ?_
                                        clear hc8 hf8
                                        generalize w8.setCell ⟨O, 33, none⟩ (.slice va8 (out.length + 1) vc8) = w9 at *
                                        have HB9 := Lib.hid (HM9.out.alloc (.cells #[.int .i64 (out.length : Int)] 3))
                                        rw [hst] at HB9
                                        have hcq : (w9.alloc (.cells #[.int .i64 (out.length : Int)] 3)).cell? ⟨w9.heap.size, 0, none⟩ = some (.int .i64 (out.length : Int)) := by
                                          rw [World.cell?_alloc_new]; rfl)
                                     | (refine wl_appendZ rfl _ _ rfl w2.heap.size _ st rfl HB9.out.place w9.heap.size (out.length : Int) rfl hcq (by omega) HB9.out.below.size ?_
                                        intro v10 w10 hz10 hg10
                                        have HM11 := Lib.hid (HB9.out.push hz10 hg10)
                                        obtain ⟨za, zc, hz⟩ := hz10.slice
                                        subst hz
                                        rw [show (st ++ [(out.length : Int)]).length = k + 1 by simp [hst]] at HM11 ⊢
                                        clear hz10 hg10) | fail)
                  refine ⟨?_, ?_⟩
                  · iterate 44 (apply Exists.intro)
                    refine ⟨?_, rfl⟩
                    exact ⟨k + 1, _, by omega, by go_num, by rw [HNEXT.out]; exact HM11.out⟩
                  · simp [intOf]; omega
            · obtain rfl : k = l'.length := by omega
              have HML : Hid (V.mergeL l l' = (V.mergeTo l l' l'.length).1) := Lib.hid rfl
              generalize V.mergeTo l l' l'.length = s at *
              obtain ⟨out, st⟩ := s
              simp only at hst hol HST HML hri
              have hi33 := hri.invCell HD.out.1
              have HMI := Lib.hid hri
              have HZR := Lib.hid ((hri.below.block _ (show w.heap.size + 1 + 1 < w2.heap.size by omega)).trans HG22.out)
              have HBW := Lib.hid (HH.out _ hri.below)
              clear hri
              by_cases hbig : 128 < out.length
              · have HER2 : Hid (V.mergeErr d t l d t' l' = 3) := Lib.hid (by rw [HER.out, HML.out, if_pos hbig])
                have HS1 := Lib.hid (setRow_heap wr _ _ (icells zero32 0 (.slice none 0 0)) _ _ HZR.out)
                have HSB1 : Hid (Below w.heap.size w (wr.setRow (w.heap.size + 1 + 1) (icells zero32 0 (.slice none 0 0)))) := Lib.hid (HBW.out.trans (grown_below (setRow_grown wr _ _) (by omega) HBW.out.size))
                go_wp2_with (first | (refine wl_storeV rfl _ _ rfl _ _ _ HZR.out rfl zero32 0 (.slice none 0 0) rfl rfl rfl HZ0.out ?_) | fail)
                exact HEX.out 3 _ HER2.out (by decide) HSB1.out HS1.out _ Tryd.results22 _ rfl rfl rfl
              · have HER2 : Hid (V.mergeErr d t l d t' l' = 0) := Lib.hid (by rw [HER.out, HML.out, if_neg hbig])
                have HVA : Hid (V.mergeVal d t l d t' l' = (d, mx, out)) := Lib.hid (by unfold V.mergeVal; rw [if_pos HER2.out, HML.out, HMX.out])
                have HS1 := Lib.hid (setRow_heap wr _ _ (icells d mx (.slice vao out.length vco)) _ _ HZR.out)
                have HSB1 : Hid (Below w.heap.size w (wr.setRow (w.heap.size + 1 + 1) (icells d mx (.slice vao out.length vco)))) := Lib.hid (HBW.out.trans (grown_below (setRow_grown wr _ _) (by omega) HBW.out.size))
                have HCF := Lib.hid (HMI.out.row.kept2 (setRow_grown wr (w.heap.size + 1 + 1) (icells d mx (.slice vao out.length vco))) (fun b hb => by cases hb; exact HMI.out.row.ne HZR.out (by decide)))
                go_wp2_with (first | (refine wl_loadV rfl _ rfl O rfl (icells d mx (.slice vao out.length vco)) (icells_size HD.out.1 _ _) HMI.out.inv ?_) | (refine wl_storeV rfl _ _ rfl _ _ _ HZR.out rfl d mx (.slice vao out.length vco) HD.out.1 rfl rfl HZ0.out ?_) | fail)
                refine bodyPost_ret (results_two Tryd.results22 rfl rfl (run_loadVar_row _ _ _ _ _ (0, 0) _ HS1.out Tryd.underlying26 rfl (by rw [invInfo, icells_size HD.out.1]))) rfl ?_
                refine ⟨.slice vao out.length vco, ?_, ?_, HSB1.out⟩
                · rw [HVA.out, HER2.out]
                  rfl
                · rw [HVA.out]; exact HCF.out.comps
end Go.Proofs.YtoiabbhppbghdaaDoor

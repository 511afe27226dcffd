/-
  Walk: the reference's Same of two inventories that are the same.
-/
import Derived.Test.YtoiabbhppbghdaaDoorID
import Derived.Test.YtoiabbhppbghdaaDoorJN
import Derived.Test.YtoiabbhppbghdaaDoorJW
import Derived.Test.YtoiabbhppbghdaaDoorIF
namespace Go.Proofs.YtoiabbhppbghdaaDoor
open Go.RowKit

/-- in a region that only reads: two components compared -/
theorem still_neq {ops : Array Oper} {o : Oper} {a : Act} {w : World} {K : Act → Prop} {E : Prop} (hw : Region.wanted o (yielded ops a.tmps) = true) (x y : Operand) (ho : o.op = .binOp .neq 35 x y 35)
    (c d : V.Comp) (hc : CompWf c) (hd : CompWf d) (hx : a.eval x = .agg (ccells c)) (hy : a.eval y = .agg (ccells d)) (h : K (a.put o.dst (.bool (!decide (c = d))))) :
    if Region.wanted o (yielded ops a.tmps) = true then o.still Tryd.prog a w K else E := by
  rw [if_pos hw]
  unfold Oper.still execOp
  simp only [ho, hx, hy, Sem.run_bind, run_eqGuard_agg w .neq 35 x y _ _ guard_comp, Result.andThen_ok, run_neq_struct, eq_comp hc hd, Sem.run_pure, Oper.stillUpon_value]
  exact h

set_option maxRecDepth 100000 in
set_option maxHeartbeats 1600000 in
theorem same_true (d : List Int) (t : Int) (v v' : Value) (l : List V.Comp) (w : World) (hd : d.length = 32) (hdw : ∀ n ∈ d, (Lit.int .u8 n).wf = true) (hv : Comps w v l) (hv' : Comps w v' l) (hl : l.length ≤ 100000) :
    Calls Tryd.prog 23 #[.agg (icells d t v), .agg (icells d t v')] w fun e w' => e = .returned (.bool true) ∧ Below w.heap.size w w' := by
  have HL := Lib.hid hv
  have HL' := Lib.hid hv'
  obtain ⟨va, vc, rfl, hjunk⟩ := hv
  clear hjunk
  obtain ⟨va', vc', rfl, hjunk⟩ := hv'
  clear hjunk
  obtain ⟨W0, hW0⟩ : ∃ W0, W0 = (w.alloc (.cells (icells d t (.slice va l.length vc)) 26)).alloc (.cells (icells d t (.slice va' l.length vc')) 26) := ⟨_, rfl⟩
  have hsz : W0.heap.size = w.heap.size + 2 := by rw [hW0]; simp
  have HB0 : Hid (Below w.heap.size w W0) := Lib.hid (by rw [hW0]; exact ((Below.refl _ w).alloc (Nat.le_refl _) _).alloc (by simp) _)
  have hg0 : W0.heap[w.heap.size]? = some (.cells (icells d t (.slice va l.length vc)) 26 (0, 0)) := by
    rw [hW0, Below.heap_alloc _ _ _ (by simp)]; exact heap_alloc_new w _
  have hg1 : W0.heap[w.heap.size + 1]? = some (.cells (icells d t (.slice va' l.length vc')) 26 (0, 0)) := by
    rw [hW0]; have := heap_alloc_new (w.alloc (.cells (icells d t (.slice va l.length vc)) 26)) (.cells (icells d t (.slice va' l.length vc')) 26); simpa using this
  have HR := Lib.hid (inv_range hd hg0)
  have HR' := Lib.hid (inv_range hd hg1)
  have x32 : W0.cell? ⟨w.heap.size, 32, none⟩ = some (.int .i64 t) := by rw [cell_of_row W0 _ 32 _ _ _ hg0]; exact icells_32 hd t _
  have y32 : W0.cell? ⟨w.heap.size + 1, 32, none⟩ = some (.int .i64 t) := by rw [cell_of_row W0 _ 32 _ _ _ hg1]; exact icells_32 hd t _
  have x33 : W0.cell? ⟨w.heap.size, 33, none⟩ = some (.slice va l.length vc) := by rw [cell_of_row W0 _ 33 _ _ _ hg0]; exact icells_33 hd t _
  have y33 : W0.cell? ⟨w.heap.size + 1, 33, none⟩ = some (.slice va' l.length vc') := by rw [cell_of_row W0 _ 33 _ _ _ hg1]; exact icells_33 hd t _
  have HI : Hid ((Tryd.prog.info? 23).map (·.size) = some (dcellsL d).length) := Lib.hid (by rw [digInfo]; unfold dcellsL; simp [hd])
  have HQ : Hid (∀ w, (Op.equalIn 10000 23 (.agg (dcells d)) (.agg (dcells d))).run Tryd.prog w = .ok true w) := Lib.hid (fun w => by rw [eq_dig hd hdw hd hdw w]; simp)
  clear hd hdw hg0 hg1
  generalize icells d t (.slice va l.length vc) = ic at *
  generalize icells d t (.slice va' l.length vc') = ic' at *
  go_enter Tryd.func23, Tryd.ntmps23
  go_wp2_with (first | (rw [← hW0]; clear hW0; refine wpList_load_mid rfl 23 _ rfl w.heap.size 0 rfl (dcellsL d) _ HR.out Tryd.underlying23 rfl HI.out ?_) | (refine wpList_load_mid rfl 23 _ rfl (w.heap.size + 1) 0 rfl (dcellsL d) _ HR'.out Tryd.underlying23 rfl HI.out ?_) | (refine wl_neq rfl 23 23 _ _ rfl (dcells d) (dcells d) rfl rfl guard_dig true (HQ.out _) ?_) | fail)
  go_loopw [5] (fun jv wx => ∃ j : Nat, j ≤ l.length ∧ jv = .int .i64 j ∧ Below W0.heap.size W0 wx) (fun jv _ => l.length - (intOf jv).toNat)
  case atStart => exact ⟨0, Nat.zero_le _, rfl, Below.refl _ _⟩
  case round =>
    obtain ⟨j, hj, rfl, hbx⟩ := hrel
    have HBX := Lib.hid hbx
    have hx33 := (hbx.cell (p := ⟨w.heap.size, 33, none⟩) (show w.heap.size < W0.heap.size by omega)).trans x33
    by_cases hlt : j < l.length
    · obtain ⟨hdw, g, off, rfl, hgl, hgr⟩ := HL.out.at j hlt
      obtain ⟨hdw2, g', off', rfl, hgl', hgr'⟩ := HL'.out.at j hlt
      have HDW := Lib.hid hdw
      have HDR := Lib.hid (rangeAt_below (rangeAt_below (rangeAt_below hgr HB0.out) (HBX.out)) (Below.refl _ wr).drew)
      have HDR' := Lib.hid (rangeAt_below (rangeAt_below (rangeAt_below hgr' HB0.out) (HBX.out)) (Below.refl _ wr).drew)
      have hd33 := (hbx.drew.cell (p := ⟨w.heap.size, 33, none⟩) (show w.heap.size < W0.heap.size by omega)).trans x33
      have he33 := (hbx.drew.cell (p := ⟨w.heap.size + 1, 33, none⟩) (show w.heap.size + 1 < W0.heap.size by omega)).trans y33
      have hi1 : (0 : Int) ≤ (j : Int) := by omega
      have hi2 : (j : Int) < (l.length : Int) := by omega
      clear hdw hdw2 hgr hgr' hbx
      generalize l[j] = c at *
      go_wp2
      refine wp_region_still_lit (by kernel_rfl) (by kernel_rfl) ?_
      still_step
      still_step
      still_step
      still_step
      refine wpStill_step (fun K hK => ?_)
      refine still_load rfl (.tmp 37) rfl g (off + j * 36) rfl c HDW.out HDR.out (hK _ ?_)
      clear hK K
      still_step
      still_step
      still_step
      still_step
      refine wpStill_step (fun K hK => ?_)
      refine still_load rfl (.tmp 42) rfl g' (off' + j * 36) rfl c HDW.out HDR'.out (hK _ ?_)
      clear hK K
      refine wpStill_step (fun K hK => ?_)
      refine still_neq rfl (.tmp 38) (.tmp 43) rfl c c HDW.out HDW.out rfl rfl (hK _ ?_)
      clear hK K
      refine wpStill_nil ?_
      have HBD := Lib.hid HBX.out.drew
      change Exit.then _ _ _ _ wr.drew
      rw [decide_eq_true (rfl : c = c)]
      clear hd33 he33 hx33
      go_wp2
      go_roundw
      case rel => exact ⟨j + 1, by omega, by go_num, HBD.out⟩
      case measure => simp [intOf]; omega
    · obtain rfl : j = l.length := by omega
      go_wp2
      go_ret
      exact ⟨ret_bool rfl, HB0.out.trans (HBX.out.mono HB0.out.size)⟩
end Go.Proofs.YtoiabbhppbghdaaDoor

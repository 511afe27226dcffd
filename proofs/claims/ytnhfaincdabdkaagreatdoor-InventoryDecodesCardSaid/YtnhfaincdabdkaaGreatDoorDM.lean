/-
  Walk: Encode of inventories. (Printed by gen_DM.py.)
-/
import Derived.Test.YtnhfaincdabdkaaGreatDoorLL
namespace Go.Proofs.YtnhfaincdabdkaaGreatDoor
open Go.RowKit

set_option maxRecDepth 100000 in
set_option maxHeartbeats 6400000 in
theorem invEncode_any (d : List Int) (t : Int) (v : Value) (l : List V.Comp) (w : World) (hm : MaxOk w) (hp : PowOk w) (hd : d.length = 32) (hdw : ∀ n ∈ d, (Lit.int .u8 n).wf = true) (hv : Comps w v l) (hl : l.length ≤ maxLen) :
    Calls Tryz.prog 18 #[.agg (icells d t v)] w fun e w' => EncR d t l w e w' := by
  have HV := Lib.hid hv
  obtain ⟨va, vc, rfl, _⟩ := hv
  have HD := Lib.hid (And.intro hd hdw)
  have HWL : Hid (∀ c ∈ l, c.dig.length = 32) := Lib.hid (fun c hc => by
    obtain ⟨k, hk, rfl⟩ := List.mem_iff_getElem.1 hc
    exact (HV.out.at k hk).1.len)
  have HL := Lib.hid hl
  have hb1 : Below w.heap.size w (w.alloc (.cells (icells d t (.slice va l.length vc)) 27)) := (Below.refl _ w).alloc (Nat.le_refl _) _
  have hk1 : (w.alloc (.cells (icells d t (.slice va l.length vc)) 27)).heap[w.heap.size]? = some (.cells (icells d t (.slice va l.length vc)) 27 (0, 0)) := heap_alloc_new w _
  have hsz1 : (w.alloc (.cells (icells d t (.slice va l.length vc)) 27)).heap.size = w.heap.size + 1 := by simp
  have h32 := icells_32 hd t (.slice va l.length vc)
  have h33 := icells_33 hd t (.slice va l.length vc)
  have hrg := icells_range w 27 t (.slice va l.length vc) hd
  have HB1 := Lib.hid hb1
  have HK1 := Lib.hid hk1
  have HM1 := Lib.hid (hm.below hb1)
  have HP1 := Lib.hid (hp.below hb1)
  have HV1 := Lib.hid (HV.out.below hb1)
  have HCS : Hid ((icells d t (.slice va l.length vc)).size = 34) := Lib.hid (icells_size hd t _)
  have H32 : Hid ((w.alloc (.cells (icells d t (.slice va l.length vc)) 27)).cell? ⟨w.heap.size, 32, none⟩ = some (.int .i64 t)) := Lib.hid (by rw [World.cell?_alloc_new]; exact h32)
  have H33 : Hid ((w.alloc (.cells (icells d t (.slice va l.length vc)) 27)).cell? ⟨w.heap.size, 33, none⟩ = some (.slice va l.length vc)) := Lib.hid (by rw [World.cell?_alloc_new]; exact h33)
  have HRG := Lib.hid hrg
  have HI0 : Hid ((Tryz.prog.info? 24).map (·.size) = some (dcellsL d).length) := Lib.hid (by rw [digInfo]; unfold dcellsL; simp [hd])
  have HVAL := Lib.hid (valid19_any d t (.slice va l.length vc) l (w.alloc (.cells (icells d t (.slice va l.length vc)) 27)) HM1.out hd hdw HV1.out hl)
  clear hm hp hd hdw hl hb1 hk1 h32 h33 hrg
  generalize icells d t (.slice va l.length vc) = ic at *
  go_enter Tryz.func18, Tryz.ntmps18
  go_wp2_with (first | (refine wl_loadV rfl _ rfl w.heap.size rfl ic HCS.out HK1.out ?_) | fail)
  generalize w.alloc (.cells ic 27) = W1 at *
  refine HVAL.out.mono ?_
  clear HVAL
  rintro e w2 ⟨rfl, hb2⟩
  have r0 := rangeAt_below HRG.out hb2
  have x32 := cell_keep hb2 H32.out
  have x33 := cell_keep hb2 H33.out
  have HP2 := Lib.hid (HP1.out.below hb2)
  have HB2 := Lib.hid hb2
  have HBW := Lib.hid (HB1.out.trans (hb2.mono HB1.out.size))
  have HV2 := Lib.hid (HV1.out.below hb2)
  clear hb2 HRG H32 HK1
  rcases hok : V.invOk d t l with _ | _
  · have HOK := Lib.hid hok
    clear hok
    go_wp2
    go_ret2
    exact ⟨fun h => (by rw [HOK.out] at h; cases h), fun _ => rfl, HBW.out⟩
  · have HOK := Lib.hid hok
    have hpt := V.inv_parts hok
    have HT : Hid (0 ≤ t ∧ t ≤ 1099511627776) := Lib.hid ⟨hpt.1, hpt.2.1⟩
    have hl128 := hpt.2.2.1
    have HPT := Lib.hid hpt.2.2.2
    clear hok hpt
    go_wp2_with fail
    refine wp_region_held_drew (S := (fun W' => W'.rangeAt w.heap.size 0 (dcellsL d) ∧ W'.cell? ⟨w.heap.size, 32, none⟩ = some (.int .i64 t))) (by kernel_rfl) (by (try dsimp only); exact ⟨rangeAt_below r0 (Below.refl _ w2).drew, cell_keep (Below.refl _ w2).drew x32⟩) (fun hHeld => ?_)
    refine wpAnyH_take (i := 0) (v := ?_) rfl (by kernel_rfl) (by kernel_rfl) (by kernel_rfl) (fun _ _ _ h => h) (Or.inl ⟨by rfl, ?_⟩) (by assumption) ?_
    rotate_left
    · (intro w' hSw; (try dsimp only at hSw); go_simp; try with_reducible rfl)
    try simp only [List.getElem_toArray, List.getElem_cons_zero, Act.put, List.setIfInBounds_toArray, List.set_cons_succ, List.set_cons_zero]
    refine wpAnyH_take (i := 1) (v := (.agg (dcells d))) rfl (by kernel_rfl) (by kernel_rfl) (by kernel_rfl) (fun _ _ _ h => h) (Or.inl ⟨by rfl, fun w' hSw => ex_load rfl rfl (load_dig HD.out.1 hSw.1)⟩) (by assumption) ?_
    try simp only [List.getElem_toArray, List.getElem_cons_succ, List.getElem_cons_zero, Act.put, List.setIfInBounds_toArray, List.set_cons_succ, List.set_cons_zero]
    refine wpAnyH_take (i := 3) (v := ?_) rfl (by kernel_rfl) (by kernel_rfl) (by kernel_rfl) (fun _ _ _ h => h) (Or.inl ⟨by rfl, ?_⟩) (by assumption) ?_
    rotate_left
    · (intro w' hSw; (try dsimp only at hSw); go_simp; try with_reducible rfl)
    try simp only [List.getElem_toArray, List.getElem_cons_succ, List.getElem_cons_zero, Act.put, List.setIfInBounds_toArray, List.set_cons_succ, List.set_cons_zero]
    refine wpAnyH_take (i := 4) (v := ?_) rfl (by kernel_rfl) (by kernel_rfl) (by kernel_rfl) (fun _ _ _ h => h) (Or.inl ⟨by rfl, ?_⟩) (by assumption) ?_
    rotate_left
    · (intro w' hSw; (try dsimp only at hSw); go_simp; try with_reducible rfl)
    try simp only [List.getElem_toArray, List.getElem_cons_succ, List.getElem_cons_zero, Act.put, List.setIfInBounds_toArray, List.set_cons_succ, List.set_cons_zero]
    refine wpAnyH_ready (rs := [2]) (by kernel_rfl) (by simp) ?_
    refine AllReadyH.cons (o := _) rfl (fun K hK => ?_) AllReadyH.nil
    go_simp
    refine (digFormat_d HD.out.1 HD.out.2 _).mono ?_
    rintro e wA ⟨rfl, hbA⟩
    try dsimp only
    have hbA2 := (Below.refl w2.heap.size w2).drew.trans hbA
    refine hK.out _ _ ?_ (fun hHeld => ?_)
    · (try dsimp only); exact ⟨rangeAt_below hHeld.1 hbA, cell_keep hbA hHeld.2⟩
    clear hK K
    try simp only [List.getElem_toArray, List.getElem_cons_succ, List.getElem_cons_zero, Act.put, List.setIfInBounds_toArray, List.set_cons_succ, List.set_cons_zero]
    refine wpAnyH_ready (rs := [5]) (by kernel_rfl) (by simp) ?_
    refine AllReadyH.cons (o := _) rfl (fun K hK => ?_) AllReadyH.nil
    go_simp
    refine (docNumber_i HT.out.1 (by have := HT.out.2; omega) _ (HP2.out.below hbA2)).mono ?_
    rintro e wB ⟨rfl, hbB⟩
    try dsimp only
    have hbB2 := hbA2.trans (hbB.mono hbA2.size)
    refine hK.out _ _ ?_ (fun hHeld => ?_)
    · (try dsimp only); exact ⟨rangeAt_below hHeld.1 hbB, cell_keep hbB hHeld.2⟩
    clear hK K
    try simp only [List.getElem_toArray, List.getElem_cons_succ, List.getElem_cons_zero, Act.put, List.setIfInBounds_toArray, List.set_cons_succ, List.set_cons_zero]
    refine wpAnyH_ready (rs := [6]) (by kernel_rfl) (by simp) ?_
    refine AllReadyH.cons (o := _) rfl (fun K hK => ?_) AllReadyH.nil
    refine step_build3L rfl _ _ _ rfl V.invW (V.fmtB (V.bytesD d)) (Lib.decDigits t.toNat) rfl rfl rfl ?_
    refine hK.out _ _ ?_ (fun hHeld => ?_)
    · (try dsimp only); exact ⟨rangeAt_below hHeld.1 ((Below.refl _ _).alloc (Nat.le_refl _) _), cell_keep ((Below.refl _ _).alloc (Nat.le_refl _) _) hHeld.2⟩
    clear hK K
    try simp only [List.getElem_toArray, List.getElem_cons_succ, List.getElem_cons_zero, Act.put, List.setIfInBounds_toArray, List.set_cons_succ, List.set_cons_zero]
    refine wpAnyH_ready (rs := [7]) (by kernel_rfl) (by simp) ?_
    refine AllReadyH.cons (o := _) rfl (fun K hK => ?_) AllReadyH.nil
    have hbC : Below w2.heap.size w2 (wB.alloc (.cells (wordsV (V.headLine d t)) 9)) := hbB2.alloc hbB2.size _
    refine step_build1L rfl _ rfl ⟨some ⟨wB.heap.size, 0, none⟩, 3, 3⟩ rfl ?_
    refine hK.out _ _ ?_ (fun hHeld => ?_)
    · (try dsimp only); exact ⟨rangeAt_below hHeld.1 ((Below.refl _ _).alloc (Nat.le_refl _) _), cell_keep ((Below.refl _ _).alloc (Nat.le_refl _) _) hHeld.2⟩
    clear hK K
    try simp only [List.getElem_toArray, List.getElem_cons_succ, List.getElem_cons_zero, Act.put, List.setIfInBounds_toArray, List.set_cons_succ, List.set_cons_zero]
    refine wpAnyH_take (i := 8) (v := ?_) rfl (by kernel_rfl) (by kernel_rfl) (by kernel_rfl) (fun _ _ _ h => h) (Or.inl ⟨by rfl, ?_⟩) (by assumption) ?_
    rotate_left
    · (intro w' hSw; (try dsimp only at hSw); go_simp; try with_reducible rfl)
    try simp only [List.getElem_toArray, List.getElem_cons_succ, List.getElem_cons_zero, Act.put, List.setIfInBounds_toArray, List.set_cons_succ, List.set_cons_zero]
    refine wpAnyH_done (by kernel_rfl) ?_ _
    have hu0 := strs_new wB (V.headLine d t)
    have hsC : (wB.alloc (.cells (wordsV (V.headLine d t)) 9)).heap.size = wB.heap.size + 1 := by simp
    have hw2z : w.heap.size + 1 ≤ w2.heap.size := by rw [← hsz1]; exact HB2.out.size
    have hlr := LRow.one (N := w.heap.size + 1) (u := ⟨some ⟨wB.heap.size, 0, none⟩, 3, 3⟩) (by change _ ≤ (wB.alloc (.cells (wordsV (V.headLine d t)) 9)).heap.size; rw [hsC]; have := hbB2.size; omega) hu0 (by simp [V.headLine])
    have hbD := hbC.alloc hbC.size (.cells #[(⟨some ⟨wB.heap.size, 0, none⟩, 3, 3⟩ : Lsl).v] 61)
    have hbE := HB2.out.trans (hbD.mono HB2.out.size)
    rw [hsz1] at hbE
    have y33 := cell_keep hbD x33
    have HS0 : Hid (EncS (w.heap.size + 1) W1 (.slice (some ⟨wB.heap.size + 1, 0, none⟩) 1 1) (V.invLines d t l 0) ((wB.alloc (.cells (wordsV (V.headLine d t)) 9)).alloc (.cells #[(⟨some ⟨wB.heap.size, 0, none⟩, 3, 3⟩ : Lsl).v] 61))) := Lib.hid ⟨⟨_, by rw [← hsC]; exact hlr⟩, hbE, by have := hbD.size; omega⟩
    change Exit.then _ _ _ _ ((wB.alloc (.cells (wordsV (V.headLine d t)) 9)).alloc (.cells #[(⟨some ⟨wB.heap.size, 0, none⟩, 3, 3⟩ : Lsl).v] 61))
    try simp only [World.size_alloc]
    clear hu0 hlr hbE hHeld r0 x32 hw2z hbA hbA2 hbB hbB2 hbC hbD x33
    generalize (wB.alloc (.cells (wordsV (V.headLine d t)) 9)).alloc (.cells #[(⟨some ⟨wB.heap.size, 0, none⟩, 3, 3⟩ : Lsl).v] 61) = W4 at *
    clear hsC
    generalize wB.heap.size + 1 = b4 at *
    go_wp2
    go_loopw [4, 22] (fun ov iv wx => ∃ k : Nat, k ≤ l.length ∧ iv = .int .i64 k ∧ EncS (w.heap.size + 1) W1 ov (V.invLines d t l k) wx) (fun _ iv _ => l.length - (intOf iv).toNat)
    case atStart => exact ⟨0, Nat.zero_le _, rfl, HS0.out⟩
    case round =>
      obtain ⟨k, hk, rfl, hes⟩ := hrel
      obtain ⟨us, hrow⟩ := hes.row
      obtain ⟨oa, oc, rfl⟩ := hrow.slice
      have HR := Lib.hid hrow
      have HBR := Lib.hid hes.below
      have hNs := hes.size
      clear hrow hes HS0 y33
      by_cases hlt : k < l.length
      · obtain ⟨hxw, b, off, rfl, hblt, hxr⟩ := HV1.out.at k hlt
        have HX := Lib.hid hxw
        have HXR := Lib.hid (rangeAt_below hxr (by rw [hsz1]; exact HBR.out))
        have hpk := HPT.out k hlt
        have HST := Lib.hid (V.invLines_step (d := d) (t := t) hlt)
        have hi1 : (0 : Int) ≤ (k : Int) := by omega
        have hi2 : (k : Int) < (l.length : Int) := by omega
        have hk128 : (k : Int) ≤ 128 := by omega
        clear hxw hxr
        generalize l[k] = x at *
        have HPN : Hid (0 ≤ x.par + 1 ∧ x.par + 1 ≤ 2199023255552) := Lib.hid ⟨by omega, by omega⟩
        have HSC := Lib.hid (compOk_sch hpk.1)
        have hwrap : IntKind.i64.wrap (x.par + 1) = x.par + 1 := by have := hpk.2; unfold IntKind.wrap; simp [IntKind.signed, IntKind.bits]; omega
        clear hpk
        have HRD : Hid ((wr.alloc (.cells (ccells x) 88)).rangeAt wr.heap.size 4 (dcellsL x.dig)) := Lib.hid (by have := range_dig4 (range_new x wr 88); simpa using this)
        have HI : Hid ((Tryz.prog.info? 24).map (·.size) = some (dcellsL x.dig).length) := Lib.hid (by rw [digInfo]; unfold dcellsL; simp [HX.out.len])
        have hbZ : Below wr.heap.size wr (wr.alloc (.cells (ccells x) 88)) := (Below.refl _ wr).alloc (Nat.le_refl _) _
        have HX0 : Hid ((wr.alloc (.cells (ccells x) 88)).cell? ⟨wr.heap.size, 0, none⟩ = some (.int .i64 x.par) ∧ (wr.alloc (.cells (ccells x) 88)).cell? ⟨wr.heap.size, 1, none⟩ = some (.int .i64 x.sch) ∧ (wr.alloc (.cells (ccells x) 88)).cell? ⟨wr.heap.size, 2, none⟩ = some (.string ⟨x.name.toArray⟩) ∧ (wr.alloc (.cells (ccells x) 88)).cell? ⟨wr.heap.size, 3, none⟩ = some (.string ⟨x.ver.toArray⟩)) := Lib.hid (by
          simp only [World.cell?_alloc_new]
          exact ⟨rfl, rfl, rfl, rfl⟩)
        have HXB : Hid (some wr.heap.size = (Value.slice oa (V.invLines d t l k).length oc).ownBlock → False) := Lib.hid (fun e => by
          have := HR.out.row.lt _ e.symm
          omega)
        have HRZ := Lib.hid (HR.out.later hbZ)
        have HBZ := Lib.hid (HBR.out.trans (hbZ.mono hNs))
        have HPZ := Lib.hid (HP1.out.below (by rw [hsz1]; exact HBZ.out))
        clear hbZ HR HBR
        by_cases hz : x.dig = zero32
        · have HQ : Hid (∀ w, (Op.equalIn 10000 24 (.agg (dcells x.dig)) (.agg (dcells zero32))).run Tryz.prog w = .ok true w) := Lib.hid (fun w => by have := eq_dig HX.out.len HX.out.dig (b := zero32) (by decide) (by decide) w; rw [decide_eq_true hz] at this; exact this)
          have HNX : Hid (V.invLines d t l (k + 1) = V.invLines d t l k ++ [[V.compW, Lib.decDigits (x.par + 1).toNat, V.schName x.sch, x.name, x.ver, []]]) := Lib.hid (by rw [HST.out]; unfold V.compLine V.digText; rw [if_pos (show x.dig = V.zeroDig from hz)])
          clear hz HST
          go_wp2_with (first | (refine wl_load rfl _ rfl b (off + k * 36) rfl x HX.out HXR.out ?_) | (refine wl_store rfl _ _ rfl _ _ rfl x HX.out rfl rfl ?_) | (refine wpList_load_mid rfl 24 _ rfl wr.heap.size 4 rfl (dcellsL x.dig) _ HRD.out Tryz.underlying24 rfl HI.out ?_) | (refine wl_neq rfl 24 24 _ _ rfl (dcells x.dig) (dcells zero32) rfl rfl guard_dig _ (HQ.out _) ?_) | fail)
          have x0 := HX0.out.1
          have x1 := HX0.out.2.1
          have x2 := HX0.out.2.2.1
          have x3 := HX0.out.2.2.2
          have HPW := HPZ
          clear HX0 HRD HXR HI HQ HPZ
          generalize wr.alloc (.cells (ccells x) 88) = wz at *
          have hNz : w.heap.size + 1 ≤ wz.heap.size := by have := HBZ.out.size; omega
          refine wp_region_held_drew (S := (fun W' => W'.cell? ⟨wr.heap.size, 0, none⟩ = some (.int .i64 x.par) ∧ W'.cell? ⟨wr.heap.size, 1, none⟩ = some (.int .i64 x.sch) ∧ W'.cell? ⟨wr.heap.size, 2, none⟩ = some (.string ⟨x.name.toArray⟩) ∧ W'.cell? ⟨wr.heap.size, 3, none⟩ = some (.string ⟨x.ver.toArray⟩))) (by kernel_rfl) (by (try dsimp only); exact ⟨cell_keep (Below.refl _ wz).drew x0, cell_keep (Below.refl _ wz).drew x1, cell_keep (Below.refl _ wz).drew x2, cell_keep (Below.refl _ wz).drew x3⟩) (fun hHeld => ?_)
          refine wpAnyH_take (i := 0) (v := ?_) rfl (by kernel_rfl) (by kernel_rfl) (by kernel_rfl) (fun _ _ _ h => h) (Or.inl ⟨by rfl, ?_⟩) (by assumption) ?_
          rotate_left
          · (intro w' hSw; (try dsimp only at hSw); go_simp; try with_reducible rfl)
          try simp only [List.getElem_toArray, List.getElem_cons_zero, Act.put, List.setIfInBounds_toArray, List.set_cons_succ, List.set_cons_zero]
          refine wpAnyH_take (i := 1) (v := ?_) rfl (by kernel_rfl) (by kernel_rfl) (by kernel_rfl) (fun _ _ _ h => h) (Or.inl ⟨by rfl, ?_⟩) (by assumption) ?_
          rotate_left
          · (intro w' hSw; (try dsimp only at hSw); go_simp; try with_reducible rfl)
          try simp only [List.getElem_toArray, List.getElem_cons_succ, List.getElem_cons_zero, Act.put, List.setIfInBounds_toArray, List.set_cons_succ, List.set_cons_zero]
          refine wpAnyH_take (i := 2) (v := ?_) rfl (by kernel_rfl) (by kernel_rfl) (by kernel_rfl) (fun _ _ _ h => h) (Or.inl ⟨by rfl, ?_⟩) (by assumption) ?_
          rotate_left
          · (intro w' hSw; (try dsimp only at hSw); go_simp; try with_reducible rfl)
          try simp only [List.getElem_toArray, List.getElem_cons_succ, List.getElem_cons_zero, Act.put, List.setIfInBounds_toArray, List.set_cons_succ, List.set_cons_zero]
          refine wpAnyH_take (i := 3) (v := (.int .i64 (x.par + 1))) rfl (by kernel_rfl) (by kernel_rfl) (by kernel_rfl) (fun _ _ _ h => h) (Or.inl ⟨by rfl, fun w' hSw => by go_simp; try rfl⟩) (by assumption) ?_
          try simp only [List.getElem_toArray, List.getElem_cons_succ, List.getElem_cons_zero, Act.put, List.setIfInBounds_toArray, List.set_cons_succ, List.set_cons_zero]
          refine wpAnyH_take (i := 5) (v := ?_) rfl (by kernel_rfl) (by kernel_rfl) (by kernel_rfl) (fun _ _ _ h => h) (Or.inl ⟨by rfl, ?_⟩) (by assumption) ?_
          rotate_left
          · (intro w' hSw; (try dsimp only at hSw); go_simp; try with_reducible rfl)
          try simp only [List.getElem_toArray, List.getElem_cons_succ, List.getElem_cons_zero, Act.put, List.setIfInBounds_toArray, List.set_cons_succ, List.set_cons_zero]
          refine wpAnyH_take (i := 6) (v := ?_) rfl (by kernel_rfl) (by kernel_rfl) (by kernel_rfl) (fun _ _ _ h => h) (Or.inl ⟨by rfl, ?_⟩) (by assumption) ?_
          rotate_left
          · (intro w' hSw; (try dsimp only at hSw); go_simp; try with_reducible rfl)
          try simp only [List.getElem_toArray, List.getElem_cons_succ, List.getElem_cons_zero, Act.put, List.setIfInBounds_toArray, List.set_cons_succ, List.set_cons_zero]
          refine wpAnyH_take (i := 8) (v := ?_) rfl (by kernel_rfl) (by kernel_rfl) (by kernel_rfl) (fun _ _ _ h => h) (Or.inl ⟨by rfl, ?_⟩) (by assumption) ?_
          rotate_left
          · (intro w' hSw; (try dsimp only at hSw); go_simp; try with_reducible rfl)
          try simp only [List.getElem_toArray, List.getElem_cons_succ, List.getElem_cons_zero, Act.put, List.setIfInBounds_toArray, List.set_cons_succ, List.set_cons_zero]
          refine wpAnyH_take (i := 9) (v := ?_) rfl (by kernel_rfl) (by kernel_rfl) (by kernel_rfl) (fun _ _ _ h => h) (Or.inl ⟨by rfl, ?_⟩) (by assumption) ?_
          rotate_left
          · (intro w' hSw; (try dsimp only at hSw); go_simp; try with_reducible rfl)
          try simp only [List.getElem_toArray, List.getElem_cons_succ, List.getElem_cons_zero, Act.put, List.setIfInBounds_toArray, List.set_cons_succ, List.set_cons_zero]
          refine wpAnyH_take (i := 10) (v := ?_) rfl (by kernel_rfl) (by kernel_rfl) (by kernel_rfl) (fun _ _ _ h => h) (Or.inl ⟨by rfl, ?_⟩) (by assumption) ?_
          rotate_left
          · (intro w' hSw; (try dsimp only at hSw); go_simp; try with_reducible rfl)
          try simp only [List.getElem_toArray, List.getElem_cons_succ, List.getElem_cons_zero, Act.put, List.setIfInBounds_toArray, List.set_cons_succ, List.set_cons_zero]
          refine wpAnyH_take (i := 11) (v := ?_) rfl (by kernel_rfl) (by kernel_rfl) (by kernel_rfl) (fun _ _ _ h => h) (Or.inl ⟨by rfl, ?_⟩) (by assumption) ?_
          rotate_left
          · (intro w' hSw; (try dsimp only at hSw); go_simp; try with_reducible rfl)
          try simp only [List.getElem_toArray, List.getElem_cons_succ, List.getElem_cons_zero, Act.put, List.setIfInBounds_toArray, List.set_cons_succ, List.set_cons_zero]
          refine wpAnyH_take (i := 12) (v := ?_) rfl (by kernel_rfl) (by kernel_rfl) (by kernel_rfl) (fun _ _ _ h => h) (Or.inl ⟨by rfl, ?_⟩) (by assumption) ?_
          rotate_left
          · (intro w' hSw; (try dsimp only at hSw); go_simp; try with_reducible rfl)
          try simp only [List.getElem_toArray, List.getElem_cons_succ, List.getElem_cons_zero, Act.put, List.setIfInBounds_toArray, List.set_cons_succ, List.set_cons_zero]
          refine wpAnyH_ready (rs := [4]) (by kernel_rfl) (by simp) ?_
          refine AllReadyH.cons (o := _) rfl (fun K hK => ?_) AllReadyH.nil
          go_simp
          refine (docNumber_i HPN.out.1 HPN.out.2 _ (HPW.out.below (Below.refl _ wz).drew)).mono ?_
          rintro e wN ⟨rfl, hbN⟩
          try dsimp only
          have hbN2 := (Below.refl wz.heap.size wz).drew.trans hbN
          refine hK.out _ _ ?_ (fun hHeld => ?_)
          · (try dsimp only); exact ⟨cell_keep hbN hHeld.1, cell_keep hbN hHeld.2.1, cell_keep hbN hHeld.2.2.1, cell_keep hbN hHeld.2.2.2⟩
          clear hK K
          try simp only [List.getElem_toArray, List.getElem_cons_succ, List.getElem_cons_zero, Act.put, List.setIfInBounds_toArray, List.set_cons_succ, List.set_cons_zero]
          refine wpAnyH_ready (rs := [7]) (by kernel_rfl) (by simp) ?_
          refine AllReadyH.cons (o := _) rfl (fun K hK => ?_) AllReadyH.nil
          go_simp
          refine (schName_any x.sch wN).mono ?_
          rintro e wS ⟨rfl, rfl⟩
          try dsimp only
          refine hK.out _ _ ?_ (fun hHeld => ?_)
          · (try dsimp only); exact hHeld
          clear hK K
          try simp only [List.getElem_toArray, List.getElem_cons_succ, List.getElem_cons_zero, Act.put, List.setIfInBounds_toArray, List.set_cons_succ, List.set_cons_zero]
          refine wpAnyH_ready (rs := [13]) (by kernel_rfl) (by simp) ?_
          refine AllReadyH.cons (o := _) rfl (fun K hK => ?_) AllReadyH.nil
          refine step_build6L rfl _ _ _ _ _ _ rfl V.compW (Lib.decDigits (x.par + 1).toNat) (V.schName x.sch) x.name x.ver [] rfl rfl rfl rfl rfl rfl ?_
          refine hK.out _ _ ?_ (fun hHeld => ?_)
          · (try dsimp only); exact ⟨cell_keep ((Below.refl _ _).alloc (Nat.le_refl _) _) hHeld.1, cell_keep ((Below.refl _ _).alloc (Nat.le_refl _) _) hHeld.2.1, cell_keep ((Below.refl _ _).alloc (Nat.le_refl _) _) hHeld.2.2.1, cell_keep ((Below.refl _ _).alloc (Nat.le_refl _) _) hHeld.2.2.2⟩
          clear hK K
          try simp only [List.getElem_toArray, List.getElem_cons_succ, List.getElem_cons_zero, Act.put, List.setIfInBounds_toArray, List.set_cons_succ, List.set_cons_zero]
          refine wpAnyH_ready (rs := [14]) (by kernel_rfl) (by simp) ?_
          refine AllReadyH.cons (o := _) rfl (fun K hK => ?_) AllReadyH.nil
          have hbC : Below wz.heap.size wz (wS.alloc (.cells (wordsV [V.compW, Lib.decDigits (x.par + 1).toNat, V.schName x.sch, x.name, x.ver, []]) 9)) := hbN2.alloc hbN2.size _
          refine step_build1L rfl _ rfl ⟨some ⟨wS.heap.size, 0, none⟩, 6, 6⟩ rfl ?_
          refine hK.out _ _ ?_ (fun hHeld => ?_)
          · (try dsimp only); exact ⟨cell_keep ((Below.refl _ _).alloc (Nat.le_refl _) _) hHeld.1, cell_keep ((Below.refl _ _).alloc (Nat.le_refl _) _) hHeld.2.1, cell_keep ((Below.refl _ _).alloc (Nat.le_refl _) _) hHeld.2.2.1, cell_keep ((Below.refl _ _).alloc (Nat.le_refl _) _) hHeld.2.2.2⟩
          clear hK K
          try simp only [List.getElem_toArray, List.getElem_cons_succ, List.getElem_cons_zero, Act.put, List.setIfInBounds_toArray, List.set_cons_succ, List.set_cons_zero]
          refine wpAnyH_ready (rs := [15]) (by kernel_rfl) (by simp) ?_
          refine AllReadyH.cons (o := _) rfl (fun K hK => ?_) AllReadyH.nil
          have hbD := hbC.alloc hbC.size (.cells #[(⟨some ⟨wS.heap.size, 0, none⟩, 6, 6⟩ : Lsl).v] 61)
          have HLZ := Lib.hid (HRZ.out.later hbD)
          have HUS := Lib.hid (strs_below (strs_new wS [V.compW, Lib.decDigits (x.par + 1).toNat, V.schName x.sch, x.name, x.ver, []]) ((Below.refl _ _).alloc (Nat.le_refl _) (.cells #[(⟨some ⟨wS.heap.size, 0, none⟩, 6, 6⟩ : Lsl).v] 61)))
          have hszC := hbC.size
          have hszD := hbD.size
          refine step_appendA lslE_len (by decide) lslE_one lineInfo (by decide) rfl _ _ 64 rfl Tryz.underlying64 (w.heap.size + 1) (.slice oa (V.invLines d t l k).length oc) us rfl HLZ.out.row _ ⟨some ⟨wS.heap.size, 0, none⟩, 6, 6⟩ rfl (cell_line _ _) (by rw [HRZ.out.len]; have := V.invLines_len d t l k; omega) (by omega) (fun v9 w9 hr9 hg9 ho9 => ?_)
          refine hK.out _ _ ?_ (fun hHeld => ?_)
          · (try dsimp only); exact ⟨hg9.cell hHeld.1 (fun e => HXB.out e), hg9.cell hHeld.2.1 (fun e => HXB.out e), hg9.cell hHeld.2.2.1 (fun e => HXB.out e), hg9.cell hHeld.2.2.2 (fun e => HXB.out e)⟩
          clear hK K
          try simp only [List.getElem_toArray, List.getElem_cons_succ, List.getElem_cons_zero, Act.put, List.setIfInBounds_toArray, List.set_cons_succ, List.set_cons_zero]
          refine wpAnyH_take (i := 16) (v := ?_) rfl (by kernel_rfl) (by kernel_rfl) (by kernel_rfl) (fun _ _ _ h => h) (Or.inl ⟨by rfl, ?_⟩) (by assumption) ?_
          rotate_left
          · (intro w' hSw; (try dsimp only at hSw); go_simp; try with_reducible rfl)
          try simp only [List.getElem_toArray, List.getElem_cons_succ, List.getElem_cons_zero, Act.put, List.setIfInBounds_toArray, List.set_cons_succ, List.set_cons_zero]
          refine wpAnyH_done (by kernel_rfl) ?_ _
          have HN9 := Lib.hid (HLZ.out.add hr9 hg9 ho9 HUS.out (fun _ c hc => by
            have := HRZ.out.row.lt
            intro e
            have h1 := this c e
            have h2 := hbN2.size
            simp [Lsl.v, Value.ownBlock] at hc
            omega))
          have HB9 := Lib.hid (HBZ.out.trans ((hbD.mono hNz).trans (grown_below2 hg9 HLZ.out.row.block (Nat.le_refl _) (by omega))))
          have hs9 : w.heap.size + 1 ≤ w9.heap.size := by have := hg9.size; omega
          have HS9 := Lib.hid hs9
          clear hr9 hg9 ho9 hHeld hbD hbC hbN2 hszC hszD hs9 hNz HLZ HUS HRZ HBZ x0 x1 x2 x3
          go_wp2
          go_roundw
          case rel => exact ⟨k + 1, by omega, by go_num, ⟨⟨_, by rw [HNX.out]; exact HN9.out⟩, HB9.out, HS9.out⟩⟩
          case measure => simp [intOf]; omega
        · have HQ : Hid (∀ w, (Op.equalIn 10000 24 (.agg (dcells x.dig)) (.agg (dcells zero32))).run Tryz.prog w = .ok false w) := Lib.hid (fun w => by have := eq_dig HX.out.len HX.out.dig (b := zero32) (by decide) (by decide) w; rw [decide_eq_false hz] at this; exact this)
          have HNX : Hid (V.invLines d t l (k + 1) = V.invLines d t l k ++ [[V.compW, Lib.decDigits (x.par + 1).toNat, V.schName x.sch, x.name, x.ver, V.fmtB (V.bytesD x.dig)]]) := Lib.hid (by rw [HST.out]; unfold V.compLine V.digText; rw [if_neg (show ¬ x.dig = V.zeroDig from hz)])
          clear hz HST
          go_wp2_with (first | (refine wl_load rfl _ rfl b (off + k * 36) rfl x HX.out HXR.out ?_) | (refine wl_store rfl _ _ rfl _ _ rfl x HX.out rfl rfl ?_) | (refine wpList_load_mid rfl 24 _ rfl wr.heap.size 4 rfl (dcellsL x.dig) _ HRD.out Tryz.underlying24 rfl HI.out ?_) | (refine wl_neq rfl 24 24 _ _ rfl (dcells x.dig) (dcells zero32) rfl rfl guard_dig _ (HQ.out _) ?_) | fail)
          refine (digFormat_d HX.out.len HX.out.dig _).mono ?_
          rintro e wz ⟨rfl, hbF⟩
          have x0 := cell_keep hbF HX0.out.1
          have x1 := cell_keep hbF HX0.out.2.1
          have x2 := cell_keep hbF HX0.out.2.2.1
          have x3 := cell_keep hbF HX0.out.2.2.2
          have HPW := Lib.hid (HPZ.out.below hbF)
          replace HRZ := Lib.hid (HRZ.out.later hbF)
          have hs1 : w.heap.size + 1 ≤ (wr.alloc (.cells (ccells x) 88)).heap.size := by simp; omega
          replace HBZ := Lib.hid (HBZ.out.trans (hbF.mono hs1))
          clear HX0 HRD HXR HI HQ HPZ hbF hs1
          go_wp2_with fail
          have hNz : w.heap.size + 1 ≤ wz.heap.size := by have := HBZ.out.size; omega
          refine wp_region_held_drew (S := (fun W' => W'.cell? ⟨wr.heap.size, 0, none⟩ = some (.int .i64 x.par) ∧ W'.cell? ⟨wr.heap.size, 1, none⟩ = some (.int .i64 x.sch) ∧ W'.cell? ⟨wr.heap.size, 2, none⟩ = some (.string ⟨x.name.toArray⟩) ∧ W'.cell? ⟨wr.heap.size, 3, none⟩ = some (.string ⟨x.ver.toArray⟩))) (by kernel_rfl) (by (try dsimp only); exact ⟨cell_keep (Below.refl _ wz).drew x0, cell_keep (Below.refl _ wz).drew x1, cell_keep (Below.refl _ wz).drew x2, cell_keep (Below.refl _ wz).drew x3⟩) (fun hHeld => ?_)
          refine wpAnyH_take (i := 0) (v := ?_) rfl (by kernel_rfl) (by kernel_rfl) (by kernel_rfl) (fun _ _ _ h => h) (Or.inl ⟨by rfl, ?_⟩) (by assumption) ?_
          rotate_left
          · (intro w' hSw; (try dsimp only at hSw); go_simp; try with_reducible rfl)
          try simp only [List.getElem_toArray, List.getElem_cons_zero, Act.put, List.setIfInBounds_toArray, List.set_cons_succ, List.set_cons_zero]
          refine wpAnyH_take (i := 1) (v := ?_) rfl (by kernel_rfl) (by kernel_rfl) (by kernel_rfl) (fun _ _ _ h => h) (Or.inl ⟨by rfl, ?_⟩) (by assumption) ?_
          rotate_left
          · (intro w' hSw; (try dsimp only at hSw); go_simp; try with_reducible rfl)
          try simp only [List.getElem_toArray, List.getElem_cons_succ, List.getElem_cons_zero, Act.put, List.setIfInBounds_toArray, List.set_cons_succ, List.set_cons_zero]
          refine wpAnyH_take (i := 2) (v := ?_) rfl (by kernel_rfl) (by kernel_rfl) (by kernel_rfl) (fun _ _ _ h => h) (Or.inl ⟨by rfl, ?_⟩) (by assumption) ?_
          rotate_left
          · (intro w' hSw; (try dsimp only at hSw); go_simp; try with_reducible rfl)
          try simp only [List.getElem_toArray, List.getElem_cons_succ, List.getElem_cons_zero, Act.put, List.setIfInBounds_toArray, List.set_cons_succ, List.set_cons_zero]
          refine wpAnyH_take (i := 3) (v := (.int .i64 (x.par + 1))) rfl (by kernel_rfl) (by kernel_rfl) (by kernel_rfl) (fun _ _ _ h => h) (Or.inl ⟨by rfl, fun w' hSw => by go_simp; try rfl⟩) (by assumption) ?_
          try simp only [List.getElem_toArray, List.getElem_cons_succ, List.getElem_cons_zero, Act.put, List.setIfInBounds_toArray, List.set_cons_succ, List.set_cons_zero]
          refine wpAnyH_take (i := 5) (v := ?_) rfl (by kernel_rfl) (by kernel_rfl) (by kernel_rfl) (fun _ _ _ h => h) (Or.inl ⟨by rfl, ?_⟩) (by assumption) ?_
          rotate_left
          · (intro w' hSw; (try dsimp only at hSw); go_simp; try with_reducible rfl)
          try simp only [List.getElem_toArray, List.getElem_cons_succ, List.getElem_cons_zero, Act.put, List.setIfInBounds_toArray, List.set_cons_succ, List.set_cons_zero]
          refine wpAnyH_take (i := 6) (v := ?_) rfl (by kernel_rfl) (by kernel_rfl) (by kernel_rfl) (fun _ _ _ h => h) (Or.inl ⟨by rfl, ?_⟩) (by assumption) ?_
          rotate_left
          · (intro w' hSw; (try dsimp only at hSw); go_simp; try with_reducible rfl)
          try simp only [List.getElem_toArray, List.getElem_cons_succ, List.getElem_cons_zero, Act.put, List.setIfInBounds_toArray, List.set_cons_succ, List.set_cons_zero]
          refine wpAnyH_take (i := 8) (v := ?_) rfl (by kernel_rfl) (by kernel_rfl) (by kernel_rfl) (fun _ _ _ h => h) (Or.inl ⟨by rfl, ?_⟩) (by assumption) ?_
          rotate_left
          · (intro w' hSw; (try dsimp only at hSw); go_simp; try with_reducible rfl)
          try simp only [List.getElem_toArray, List.getElem_cons_succ, List.getElem_cons_zero, Act.put, List.setIfInBounds_toArray, List.set_cons_succ, List.set_cons_zero]
          refine wpAnyH_take (i := 9) (v := ?_) rfl (by kernel_rfl) (by kernel_rfl) (by kernel_rfl) (fun _ _ _ h => h) (Or.inl ⟨by rfl, ?_⟩) (by assumption) ?_
          rotate_left
          · (intro w' hSw; (try dsimp only at hSw); go_simp; try with_reducible rfl)
          try simp only [List.getElem_toArray, List.getElem_cons_succ, List.getElem_cons_zero, Act.put, List.setIfInBounds_toArray, List.set_cons_succ, List.set_cons_zero]
          refine wpAnyH_take (i := 10) (v := ?_) rfl (by kernel_rfl) (by kernel_rfl) (by kernel_rfl) (fun _ _ _ h => h) (Or.inl ⟨by rfl, ?_⟩) (by assumption) ?_
          rotate_left
          · (intro w' hSw; (try dsimp only at hSw); go_simp; try with_reducible rfl)
          try simp only [List.getElem_toArray, List.getElem_cons_succ, List.getElem_cons_zero, Act.put, List.setIfInBounds_toArray, List.set_cons_succ, List.set_cons_zero]
          refine wpAnyH_take (i := 11) (v := ?_) rfl (by kernel_rfl) (by kernel_rfl) (by kernel_rfl) (fun _ _ _ h => h) (Or.inl ⟨by rfl, ?_⟩) (by assumption) ?_
          rotate_left
          · (intro w' hSw; (try dsimp only at hSw); go_simp; try with_reducible rfl)
          try simp only [List.getElem_toArray, List.getElem_cons_succ, List.getElem_cons_zero, Act.put, List.setIfInBounds_toArray, List.set_cons_succ, List.set_cons_zero]
          refine wpAnyH_take (i := 12) (v := ?_) rfl (by kernel_rfl) (by kernel_rfl) (by kernel_rfl) (fun _ _ _ h => h) (Or.inl ⟨by rfl, ?_⟩) (by assumption) ?_
          rotate_left
          · (intro w' hSw; (try dsimp only at hSw); go_simp; try with_reducible rfl)
          try simp only [List.getElem_toArray, List.getElem_cons_succ, List.getElem_cons_zero, Act.put, List.setIfInBounds_toArray, List.set_cons_succ, List.set_cons_zero]
          refine wpAnyH_ready (rs := [4]) (by kernel_rfl) (by simp) ?_
          refine AllReadyH.cons (o := _) rfl (fun K hK => ?_) AllReadyH.nil
          go_simp
          refine (docNumber_i HPN.out.1 HPN.out.2 _ (HPW.out.below (Below.refl _ wz).drew)).mono ?_
          rintro e wN ⟨rfl, hbN⟩
          try dsimp only
          have hbN2 := (Below.refl wz.heap.size wz).drew.trans hbN
          refine hK.out _ _ ?_ (fun hHeld => ?_)
          · (try dsimp only); exact ⟨cell_keep hbN hHeld.1, cell_keep hbN hHeld.2.1, cell_keep hbN hHeld.2.2.1, cell_keep hbN hHeld.2.2.2⟩
          clear hK K
          try simp only [List.getElem_toArray, List.getElem_cons_succ, List.getElem_cons_zero, Act.put, List.setIfInBounds_toArray, List.set_cons_succ, List.set_cons_zero]
          refine wpAnyH_ready (rs := [7]) (by kernel_rfl) (by simp) ?_
          refine AllReadyH.cons (o := _) rfl (fun K hK => ?_) AllReadyH.nil
          go_simp
          refine (schName_any x.sch wN).mono ?_
          rintro e wS ⟨rfl, rfl⟩
          try dsimp only
          refine hK.out _ _ ?_ (fun hHeld => ?_)
          · (try dsimp only); exact hHeld
          clear hK K
          try simp only [List.getElem_toArray, List.getElem_cons_succ, List.getElem_cons_zero, Act.put, List.setIfInBounds_toArray, List.set_cons_succ, List.set_cons_zero]
          refine wpAnyH_ready (rs := [13]) (by kernel_rfl) (by simp) ?_
          refine AllReadyH.cons (o := _) rfl (fun K hK => ?_) AllReadyH.nil
          refine step_build6L rfl _ _ _ _ _ _ rfl V.compW (Lib.decDigits (x.par + 1).toNat) (V.schName x.sch) x.name x.ver (V.fmtB (V.bytesD x.dig)) rfl rfl rfl rfl rfl rfl ?_
          refine hK.out _ _ ?_ (fun hHeld => ?_)
          · (try dsimp only); exact ⟨cell_keep ((Below.refl _ _).alloc (Nat.le_refl _) _) hHeld.1, cell_keep ((Below.refl _ _).alloc (Nat.le_refl _) _) hHeld.2.1, cell_keep ((Below.refl _ _).alloc (Nat.le_refl _) _) hHeld.2.2.1, cell_keep ((Below.refl _ _).alloc (Nat.le_refl _) _) hHeld.2.2.2⟩
          clear hK K
          try simp only [List.getElem_toArray, List.getElem_cons_succ, List.getElem_cons_zero, Act.put, List.setIfInBounds_toArray, List.set_cons_succ, List.set_cons_zero]
          refine wpAnyH_ready (rs := [14]) (by kernel_rfl) (by simp) ?_
          refine AllReadyH.cons (o := _) rfl (fun K hK => ?_) AllReadyH.nil
          have hbC : Below wz.heap.size wz (wS.alloc (.cells (wordsV [V.compW, Lib.decDigits (x.par + 1).toNat, V.schName x.sch, x.name, x.ver, (V.fmtB (V.bytesD x.dig))]) 9)) := hbN2.alloc hbN2.size _
          refine step_build1L rfl _ rfl ⟨some ⟨wS.heap.size, 0, none⟩, 6, 6⟩ rfl ?_
          refine hK.out _ _ ?_ (fun hHeld => ?_)
          · (try dsimp only); exact ⟨cell_keep ((Below.refl _ _).alloc (Nat.le_refl _) _) hHeld.1, cell_keep ((Below.refl _ _).alloc (Nat.le_refl _) _) hHeld.2.1, cell_keep ((Below.refl _ _).alloc (Nat.le_refl _) _) hHeld.2.2.1, cell_keep ((Below.refl _ _).alloc (Nat.le_refl _) _) hHeld.2.2.2⟩
          clear hK K
          try simp only [List.getElem_toArray, List.getElem_cons_succ, List.getElem_cons_zero, Act.put, List.setIfInBounds_toArray, List.set_cons_succ, List.set_cons_zero]
          refine wpAnyH_ready (rs := [15]) (by kernel_rfl) (by simp) ?_
          refine AllReadyH.cons (o := _) rfl (fun K hK => ?_) AllReadyH.nil
          have hbD := hbC.alloc hbC.size (.cells #[(⟨some ⟨wS.heap.size, 0, none⟩, 6, 6⟩ : Lsl).v] 61)
          have HLZ := Lib.hid (HRZ.out.later hbD)
          have HUS := Lib.hid (strs_below (strs_new wS [V.compW, Lib.decDigits (x.par + 1).toNat, V.schName x.sch, x.name, x.ver, (V.fmtB (V.bytesD x.dig))]) ((Below.refl _ _).alloc (Nat.le_refl _) (.cells #[(⟨some ⟨wS.heap.size, 0, none⟩, 6, 6⟩ : Lsl).v] 61)))
          have hszC := hbC.size
          have hszD := hbD.size
          refine step_appendA lslE_len (by decide) lslE_one lineInfo (by decide) rfl _ _ 64 rfl Tryz.underlying64 (w.heap.size + 1) (.slice oa (V.invLines d t l k).length oc) us rfl HLZ.out.row _ ⟨some ⟨wS.heap.size, 0, none⟩, 6, 6⟩ rfl (cell_line _ _) (by rw [HRZ.out.len]; have := V.invLines_len d t l k; omega) (by omega) (fun v9 w9 hr9 hg9 ho9 => ?_)
          refine hK.out _ _ ?_ (fun hHeld => ?_)
          · (try dsimp only); exact ⟨hg9.cell hHeld.1 (fun e => HXB.out e), hg9.cell hHeld.2.1 (fun e => HXB.out e), hg9.cell hHeld.2.2.1 (fun e => HXB.out e), hg9.cell hHeld.2.2.2 (fun e => HXB.out e)⟩
          clear hK K
          try simp only [List.getElem_toArray, List.getElem_cons_succ, List.getElem_cons_zero, Act.put, List.setIfInBounds_toArray, List.set_cons_succ, List.set_cons_zero]
          refine wpAnyH_take (i := 16) (v := ?_) rfl (by kernel_rfl) (by kernel_rfl) (by kernel_rfl) (fun _ _ _ h => h) (Or.inl ⟨by rfl, ?_⟩) (by assumption) ?_
          rotate_left
          · (intro w' hSw; (try dsimp only at hSw); go_simp; try with_reducible rfl)
          try simp only [List.getElem_toArray, List.getElem_cons_succ, List.getElem_cons_zero, Act.put, List.setIfInBounds_toArray, List.set_cons_succ, List.set_cons_zero]
          refine wpAnyH_done (by kernel_rfl) ?_ _
          have HN9 := Lib.hid (HLZ.out.add hr9 hg9 ho9 HUS.out (fun _ c hc => by
            have := HRZ.out.row.lt
            intro e
            have h1 := this c e
            have h2 := hbN2.size
            simp [Lsl.v, Value.ownBlock] at hc
            omega))
          have HB9 := Lib.hid (HBZ.out.trans ((hbD.mono hNz).trans (grown_below2 hg9 HLZ.out.row.block (Nat.le_refl _) (by omega))))
          have hs9 : w.heap.size + 1 ≤ w9.heap.size := by have := hg9.size; omega
          have HS9 := Lib.hid hs9
          clear hr9 hg9 ho9 hHeld hbD hbC hbN2 hszC hszD hs9 hNz HLZ HUS HRZ HBZ x0 x1 x2 x3
          go_wp2
          go_roundw
          case rel => exact ⟨k + 1, by omega, by go_num, ⟨⟨_, by rw [HNX.out]; exact HN9.out⟩, HB9.out, HS9.out⟩⟩
          case measure => simp [intOf]; omega
      · obtain rfl : k = l.length := by omega
        have HLN := Lib.hid HR.out.lines
        have HDC := Lib.hid (V.inv_doc HOK.out HD.out.1 HWL.out)
        go_wp2_with fail
        refine (docEncode_any _ _ wr HLN.out HDC.out).mono ?_
        rintro e w3 ⟨u, rfl, hbuf⟩
        have HBF := Lib.hid hbuf
        have HBE : Hid (Below w.heap.size w w3) := Lib.hid (HB1.out.trans ((HBR.out.trans (hbuf.2.1.mono hNs)).mono (by omega)))
        clear hbuf
        go_wp2
        go_ret2
        exact ⟨fun _ => ⟨u, wr.heap.size, wr, rfl, HBF.out⟩, fun h => (by rw [HOK.out] at h; cases h), HBE.out⟩
end Go.Proofs.YtnhfaincdabdkaaGreatDoor

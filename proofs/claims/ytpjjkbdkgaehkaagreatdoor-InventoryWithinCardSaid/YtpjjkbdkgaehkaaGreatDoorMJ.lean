/-
  Walk: the reference's Valid of range sets.
-/
import Derived.Test.YtpjjkbdkgaehkaaGreatDoorMN
import Derived.Test.YtpjjkbdkgaehkaaGreatDoorMC
namespace Go.Proofs.YtpjjkbdkgaehkaaGreatDoor
open Go.RowKit

set_option maxRecDepth 100000 in
set_option maxHeartbeats 3200000 in
theorem rrValid_any (n : Int) (v : Value) (l : List V.Itv) (w : World) (hm : MaxOk w) (hv : Itvs w v l) (hs : Lens l) (hl : l.length ≤ maxLen) :
    Calls Tryz.prog 72 #[setV n v] w fun e w' => e = .returned (.bool (V.okR n l)) ∧ Below w.heap.size w w' := by
  have HV := Lib.hid hv
  obtain ⟨va, vc, rfl⟩ := hv.slice
  unfold maxLen at hl
  have HS := Lib.hid hs
  have HF : Hid (V.okR n l = (V.scheme n && (decide (l.length ≤ 32) && (l.all (V.boundsB n) && V.ordB n l)))) := Lib.hid rfl
  have hb0 : Below w.heap.size w (w.alloc (.cells #[.int .i64 n, .slice va l.length vc] 39)) := (Below.refl _ w).alloc (Nat.le_refl _) _
  have HB0 := Lib.hid hb0
  have HM := Lib.hid (hm.below hb0)
  have c0 : (w.alloc (.cells #[.int .i64 n, .slice va l.length vc] 39)).cell? ⟨w.heap.size, 0, none⟩ = some (.int .i64 n) := by simp [cell_alloc]
  have c1 : (w.alloc (.cells #[.int .i64 n, .slice va l.length vc] 39)).cell? ⟨w.heap.size, 1, none⟩ = some (.slice va l.length vc) := by simp [cell_alloc]
  clear hv hs hb0 hm
  unfold setV
  rcases hsch : V.scheme n with _ | _
  · have HR : Hid (V.okR n l = false) := Lib.hid (by rw [HF.out, hsch]; rfl)
    have HSC := Lib.hid hsch
    clear hsch
    go_enter Tryz.func72, Tryz.ntmps72
    go_wp2_with fail
    generalize w.alloc (.cells #[.int .i64 n, .slice va l.length vc] 39) = w0 at *
    refine (rscheme_any n w0).mono ?_
    rintro e w' ⟨rfl, rfl⟩
    rw [HSC.out]
    go_wp2
    go_ret
    exact ⟨ret_bool HR.out.symm, HB0.out⟩
  · have HSC := Lib.hid hsch
    clear hsch
    by_cases h32 : 32 < l.length
    · have HR : Hid (V.okR n l = false) := Lib.hid (by rw [HF.out, decide_eq_false (show ¬ l.length ≤ 32 by omega), Bool.false_and, Bool.and_false])
      go_enter Tryz.func72, Tryz.ntmps72
      go_wp2_with fail
      generalize w.alloc (.cells #[.int .i64 n, .slice va l.length vc] 39) = w0 at *
      refine (rscheme_any n w0).mono ?_
      rintro e w' ⟨rfl, rfl⟩
      rw [HSC.out]
      go_wp2
      go_ret
      exact ⟨ret_bool HR.out.symm, HB0.out⟩
    · have h32' : l.length ≤ 32 := by omega
      have HF2 : Hid (V.okR n l = (l.all (V.boundsB n) && V.ordB n l)) := Lib.hid (by rw [HF.out, HSC.out, decide_eq_true h32']; rfl)
      have hz0 : w.heap.size < (w.alloc (.cells #[.int .i64 n, .slice va l.length vc] 39)).heap.size := by simp
      go_enter Tryz.func72, Tryz.ntmps72
      go_wp2_with fail
      generalize w.alloc (.cells #[.int .i64 n, .slice va l.length vc] 39) = w0 at *
      refine (rscheme_any n w0).mono ?_
      rintro e w' ⟨rfl, rfl⟩
      rw [HSC.out]
      go_wp2
      go_loopw [3] (fun iv wx => ∃ k : Nat, k ≤ l.length ∧ iv = .int .i64 k ∧ (l.take k).all (V.boundsB n) = true ∧ Below w0.heap.size w0 wx) (fun iv _ => l.length - (intOf iv).toNat)
      case atStart => exact ⟨0, Nat.zero_le _, rfl, rfl, Below.refl _ _⟩
      case round =>
        obtain ⟨k, hk, rfl, hz, hbx⟩ := hrel
        have HZ := Lib.hid hz
        have HBX := Lib.hid hbx
        have HBF := Lib.hid (HB0.out.trans (hbx.mono HB0.out.size))
        have d0 := (hbx.cell (p := ⟨w.heap.size, 0, none⟩) hz0).trans c0
        have d1 := (hbx.cell (p := ⟨w.heap.size, 1, none⟩) hz0).trans c1
        clear hz hbx
        by_cases hlt : k < l.length
        · obtain ⟨b, off, rfl, hb0, hx⟩ := HV.out.at k hlt
          obtain ⟨h0, h1, h2, h3⟩ := hx.below hb0 HBF.out
          have hi1 : (0 : Int) ≤ (k : Int) := by omega
          have hi2 : (k : Int) < (l.length : Int) := by omega
          have hlens := HS.out _ (List.getElem_mem hlt)
          have HBD : Hid (V.boundsB n l[k] = (V.boundB n l[k].lo l[k].lk && V.boundB n l[k].hi l[k].hk)) := Lib.hid rfl
          have HYES := Lib.hid (fun hb => bnd_step (n := n) HZ.out hlt hb)
          have HNO := Lib.hid (fun hb => bnd_no (n := n) hlt hb)
          clear hx
          generalize l[k] = x at *
          have hbA : Below wr.heap.size wr (wr.alloc (.cells #[.string ⟨x.lo.toArray⟩, .int .i64 x.lk, .string ⟨x.hi.toArray⟩, .int .i64 x.hk] 80)) := (Below.refl _ wr).alloc (Nat.le_refl _) _
          have HM1 := Lib.hid ((HM.out.below HBX.out).below hbA)
          have HBA := Lib.hid (HBX.out.trans (hbA.mono HBX.out.size))
          have e0 := below_keep hbA d0
          have hx4 : ItvAt (wr.alloc (.cells #[.string ⟨x.lo.toArray⟩, .int .i64 x.lk, .string ⟨x.hi.toArray⟩, .int .i64 x.hk] 80)) wr.heap.size 0 x := by
            refine ⟨?_, ?_, ?_, ?_⟩ <;> simp [cell_alloc]
          have HX4 := Lib.hid hx4
          clear hbA hx4
          go_wp2_with fail
          generalize wr.alloc (.cells #[.string ⟨x.lo.toArray⟩, .int .i64 x.lk, .string ⟨x.hi.toArray⟩, .int .i64 x.hk] 80) = W1 at *
          obtain ⟨f0, f1, f2, f3⟩ := HX4.out
          rw [Nat.zero_add] at f1 f2 f3
          clear h0 h1 h2 h3 d0 d1
          refine (rrBound_any n x.lo x.lk W1 HM1.out hlens.1).mono ?_
          rintro e W2 ⟨rfl, hb2⟩
          have k0 := below_keep hb2 e0
          have k2 := below_keep hb2 f2
          have k3 := below_keep hb2 f3
          have HB2 := Lib.hid (HBA.out.trans (hb2.mono HBA.out.size))
          have HM2 := Lib.hid (HM1.out.below hb2)
          clear hb2 e0 f0 f1 f2 f3
          rcases hlo : V.boundB n x.lo x.lk with _ | _
          · have HR : Hid (V.okR n l = false) := Lib.hid (by rw [HF2.out, HNO.out (by rw [HBD.out, hlo]; rfl)]; rfl)
            clear hlo
            go_wp2
            go_ret
            exact ⟨ret_bool HR.out.symm, HB0.out.trans (HB2.out.mono HB0.out.size)⟩
          · have HLO := Lib.hid hlo
            clear hlo
            go_wp2_with fail
            refine (rrBound_any n x.hi x.hk W2 HM2.out hlens.2).mono ?_
            rintro e W3 ⟨rfl, hb3⟩
            have HB3 := Lib.hid (HB2.out.trans (hb3.mono HB2.out.size))
            clear hb3 k0 k2 k3
            rcases hhi : V.boundB n x.hi x.hk with _ | _
            · have HR : Hid (V.okR n l = false) := Lib.hid (by rw [HF2.out, HNO.out (by rw [HBD.out, HLO.out, hhi]; rfl)]; rfl)
              clear hhi
              go_wp2
              go_ret
              exact ⟨ret_bool HR.out.symm, HB0.out.trans (HB3.out.mono HB0.out.size)⟩
            · have HY : Hid ((l.take (k + 1)).all (V.boundsB n) = true) := Lib.hid (HYES.out (by rw [HBD.out, HLO.out, hhi]; rfl))
              clear hhi
              go_wp2
              go_roundw
              case rel => exact ⟨k + 1, by omega, by go_num, HY.out, HB3.out⟩
              case measure => simp [intOf]; omega
        · obtain rfl : k = l.length := by omega
          have HALL : Hid (∀ x ∈ l, V.boundsB n x = true) := Lib.hid (by have := HZ.out; rw [List.take_length] at this; exact List.all_eq_true.1 this)
          have HF3 : Hid (V.okR n l = V.ordB n l) := Lib.hid (by rw [HF2.out, List.all_eq_true.2 HALL.out]; rfl)
          have HMW := Lib.hid (HM.out.below HBX.out)
          have hzW : w.heap.size < wr.heap.size := Nat.lt_of_lt_of_le hz0 HBX.out.size
          have HD := Lib.hid (And.intro d0 d1)
          obtain ⟨wo, hwo⟩ : ∃ wo : World, wo = wr := ⟨_, rfl⟩
          subst hwo
          go_wp2
          clear d0 d1
          go_loopw [5] (fun iv wx => ∃ k : Nat, k ≤ l.length ∧ iv = .int .i64 k ∧ (∀ i, i < k → V.okAt n l i = true) ∧ Below wo.heap.size wo wx) (fun iv _ => l.length - (intOf iv).toNat)
          case atStart => exact ⟨0, Nat.zero_le _, rfl, fun i hi => by omega, Below.refl _ _⟩
          case round =>
            obtain ⟨k, hk, rfl, hz, hbx⟩ := hrel
            have HZ := Lib.hid hz
            have HBX := Lib.hid hbx
            have HBG := Lib.hid (HBF.out.trans (hbx.mono HBF.out.size))
            have d0 := (hbx.cell (p := ⟨w.heap.size, 0, none⟩) hzW).trans HD.out.1
            have d1 := (hbx.cell (p := ⟨w.heap.size, 1, none⟩) hzW).trans HD.out.2
            clear hz hbx
            by_cases hlt : k < l.length
            · obtain ⟨b, off, rfl, hb0, hx⟩ := HV.out.at k hlt
              obtain ⟨h0, h1, h2, h3⟩ := hx.below hb0 HBG.out
              have hi1 : (0 : Int) ≤ (k : Int) := by omega
              have hi2 : (k : Int) < (l.length : Int) := by omega
              have HBK : Hid (V.boundsB n l[k] = true) := Lib.hid (HALL.out _ (List.getElem_mem hlt))
              have HG := Lib.hid (getI_of hlt)
              clear hx
              generalize l[k] = x at *
              have hbA : Below wr.heap.size wr (wr.alloc (.cells #[.string ⟨x.lo.toArray⟩, .int .i64 x.lk, .string ⟨x.hi.toArray⟩, .int .i64 x.hk] 80)) := (Below.refl _ wr).alloc (Nat.le_refl _) _
              have HM1 := Lib.hid ((HMW.out.below HBX.out).below hbA)
              have HBA := Lib.hid (HBG.out.trans (hbA.mono HBG.out.size))
              have HBAW := Lib.hid (HBX.out.trans (hbA.mono HBX.out.size))
              have e0 := below_keep hbA d0
              have e1 := below_keep hbA d1
              have hx4 : ItvAt (wr.alloc (.cells #[.string ⟨x.lo.toArray⟩, .int .i64 x.lk, .string ⟨x.hi.toArray⟩, .int .i64 x.hk] 80)) wr.heap.size 0 x := by
                refine ⟨?_, ?_, ?_, ?_⟩ <;> simp [cell_alloc]
              have HX4 := Lib.hid hx4
              clear hbA hx4
              go_wp2_with fail
              generalize wr.alloc (.cells #[.string ⟨x.lo.toArray⟩, .int .i64 x.lk, .string ⟨x.hi.toArray⟩, .int .i64 x.hk] 80) = W1 at *
              obtain ⟨f0, f1, f2, f3⟩ := HX4.out
              rw [Nat.zero_add] at f1 f2 f3
              clear h0 h1 h2 h3 d0 d1
              obtain ⟨z, hz⟩ : ∃ z, z = V.ecmp n (V.eLow x) (V.eHigh x) := ⟨_, rfl⟩
              have HIN : Hid (V.insideB n x = decide (z < 0)) := Lib.hid (by rw [hz]; exact (V.ecmp_inside HBK.out).symm)
              have hc1 := rrCompare_any n (V.eLow x) (V.eHigh x) 
              rw [← hz] at hc1
              have HC1 := Lib.hid hc1
              clear hz hc1
              have HOK0 : Hid (V.okAt n l k = (decide (z < 0) && (decide (k = 0) || V.nextB n (l.getD (k - 1) V.noI) x))) := Lib.hid (by unfold V.okAt; rw [HG.out, HIN.out])
              by_cases hz0 : 0 ≤ z
              · have HNO : Hid (V.ordB n l = false) := Lib.hid (ord_no hlt (by rw [HOK0.out, decide_eq_false (show ¬ z < 0 by omega)]; rfl))
                have hd : decide (0 ≤ z) = true := decide_eq_true hz0
                clear hz0
                refine wp_region_held_drew (S := (fun W' => MaxOk W' ∧ W'.cell? ⟨w.heap.size, 0, none⟩ = some (.int .i64 n) ∧ W'.cell? ⟨w.heap.size, 1, none⟩ = some (.slice (some ⟨b, off, none⟩) l.length vc) ∧ W'.cell? ⟨wr.heap.size, 0, none⟩ = some (.string ⟨x.lo.toArray⟩) ∧ W'.cell? ⟨wr.heap.size, 1, none⟩ = some (.int .i64 x.lk) ∧ W'.cell? ⟨wr.heap.size, 2, none⟩ = some (.string ⟨x.hi.toArray⟩) ∧ W'.cell? ⟨wr.heap.size, 3, none⟩ = some (.int .i64 x.hk))) (by kernel_rfl) (by (try dsimp only); (try simp only [World.cell?_drew]); exact ⟨HM1.out.below (Below.refl _ _).drew, e0, e1, f0, f1, f2, f3⟩) (fun hHeld => ?_)
                refine wpAnyH_take (i := 0) (v := ?_) rfl (by kernel_rfl) (by kernel_rfl) (by kernel_rfl) (fun _ _ _ h => h) (Or.inl ⟨by rfl, ?_⟩) (by assumption) ?_
                rotate_left
                · (intro w' hSw; (try dsimp only at hSw); go_simp; try with_reducible rfl)
                try simp only [List.getElem_toArray, List.getElem_cons_zero, Act.put, List.setIfInBounds_toArray, List.set_cons_succ, List.set_cons_zero]
                refine wpAnyH_take (i := 1) (v := ?_) rfl (by kernel_rfl) (by kernel_rfl) (by kernel_rfl) (fun _ _ _ h => h) (Or.inl ⟨by rfl, ?_⟩) (by assumption) ?_
                rotate_left
                · (intro w' hSw; (try dsimp only at hSw); go_simp; try with_reducible rfl)
                try simp only [List.getElem_toArray, List.getElem_cons_succ, List.getElem_cons_zero, Act.put, List.setIfInBounds_toArray, List.set_cons_succ, List.set_cons_zero]
                refine wpAnyH_take (i := 2) (v := ?_) rfl (by kernel_rfl) (by kernel_rfl) (by kernel_rfl) (fun _ _ _ h => h) (Or.inl ⟨by rfl, ?_⟩) (by assumption) ?_
                rotate_left
                · (intro w' hSw; (try dsimp only at hSw); go_simp; try with_reducible rfl)
                try simp only [List.getElem_toArray, List.getElem_cons_succ, List.getElem_cons_zero, Act.put, List.setIfInBounds_toArray, List.set_cons_succ, List.set_cons_zero]
                refine wpAnyH_take (i := 4) (v := ?_) rfl (by kernel_rfl) (by kernel_rfl) (by kernel_rfl) (fun _ _ _ h => h) (Or.inl ⟨by rfl, ?_⟩) (by assumption) ?_
                rotate_left
                · (intro w' hSw; (try dsimp only at hSw); go_simp; try with_reducible rfl)
                try simp only [List.getElem_toArray, List.getElem_cons_succ, List.getElem_cons_zero, Act.put, List.setIfInBounds_toArray, List.set_cons_succ, List.set_cons_zero]
                refine wpAnyH_ready (rs := [3]) (by kernel_rfl) (by simp) ?_
                refine AllReadyH.cons (o := _) rfl (fun K hK => ?_) AllReadyH.nil
                go_simp
                refine (rrLow_any x _).mono ?_
                rintro e wc3 ⟨rfl, hbc3⟩
                try dsimp only
                refine hK.out _ _ ?_ (fun hHeld => ?_)
                · (try dsimp only); go_split_ands; exact ⟨MaxOk.below (by assumption) hbc3, below_keep hbc3 (by assumption), below_keep hbc3 (by assumption), below_keep hbc3 (by assumption), below_keep hbc3 (by assumption), below_keep hbc3 (by assumption), below_keep hbc3 (by assumption)⟩
                clear hK K
                try simp only [List.getElem_toArray, List.getElem_cons_succ, List.getElem_cons_zero, Act.put, List.setIfInBounds_toArray, List.set_cons_succ, List.set_cons_zero]
                refine wpAnyH_ready (rs := [5]) (by kernel_rfl) (by simp) ?_
                refine AllReadyH.cons (o := _) rfl (fun K hK => ?_) AllReadyH.nil
                go_simp
                refine (rrHigh_any x _).mono ?_
                rintro e wc5 ⟨rfl, hbc5⟩
                try dsimp only
                refine hK.out _ _ ?_ (fun hHeld => ?_)
                · (try dsimp only); go_split_ands; exact ⟨MaxOk.below (by assumption) hbc5, below_keep hbc5 (by assumption), below_keep hbc5 (by assumption), below_keep hbc5 (by assumption), below_keep hbc5 (by assumption), below_keep hbc5 (by assumption), below_keep hbc5 (by assumption)⟩
                clear hK K
                try simp only [List.getElem_toArray, List.getElem_cons_succ, List.getElem_cons_zero, Act.put, List.setIfInBounds_toArray, List.set_cons_succ, List.set_cons_zero]
                refine wpAnyH_ready (rs := [6]) (by kernel_rfl) (by simp) ?_
                refine AllReadyH.cons (o := _) rfl (fun K hK => ?_) AllReadyH.nil
                go_simp
                refine (HC1.out _ (by first | assumption | exact And.left (by assumption)) HSC.out (V.eLow_ok HBK.out) (V.eHigh_ok HBK.out)).mono ?_
                rintro e wc6 ⟨rfl, hbc6⟩
                try dsimp only
                refine hK.out _ _ ?_ (fun hHeld => ?_)
                · (try dsimp only); go_split_ands; exact ⟨MaxOk.below (by assumption) hbc6, below_keep hbc6 (by assumption), below_keep hbc6 (by assumption), below_keep hbc6 (by assumption), below_keep hbc6 (by assumption), below_keep hbc6 (by assumption), below_keep hbc6 (by assumption)⟩
                clear hK K
                try simp only [List.getElem_toArray, List.getElem_cons_succ, List.getElem_cons_zero, Act.put, List.setIfInBounds_toArray, List.set_cons_succ, List.set_cons_zero]
                refine wpAnyH_take (i := 7) (v := ?_) rfl (by kernel_rfl) (by kernel_rfl) (by kernel_rfl) (fun _ _ _ h => h) (Or.inl ⟨by rfl, ?_⟩) (by assumption) ?_
                rotate_left
                · (intro w' hSw; (try dsimp only at hSw); go_simp; try with_reducible rfl)
                try simp only [List.getElem_toArray, List.getElem_cons_succ, List.getElem_cons_zero, Act.put, List.setIfInBounds_toArray, List.set_cons_succ, List.set_cons_zero]
                refine wpAnyH_take (i := 8) (v := ?_) rfl (by kernel_rfl) (by kernel_rfl) (by kernel_rfl) (fun _ _ _ h => h) (Or.inl ⟨by rfl, ?_⟩) (by assumption) ?_
                rotate_left
                · (intro w' hSw; (try dsimp only at hSw); go_simp; try with_reducible rfl)
                try simp only [List.getElem_toArray, List.getElem_cons_succ, List.getElem_cons_zero, Act.put, List.setIfInBounds_toArray, List.set_cons_succ, List.set_cons_zero]
                refine wpAnyH_take (i := 9) (v := undef) rfl (by kernel_rfl) (by kernel_rfl) (by kernel_rfl) (fun _ _ _ h => h) (Or.inr ⟨by rfl, rfl⟩) (by assumption) ?_
                try simp only [List.getElem_toArray, List.getElem_cons_succ, List.getElem_cons_zero, Act.put, List.setIfInBounds_toArray, List.set_cons_succ, List.set_cons_zero]
                refine wpAnyH_take (i := 10) (v := undef) rfl (by kernel_rfl) (by kernel_rfl) (by kernel_rfl) (fun _ _ _ h => h) (Or.inr ⟨by rfl, rfl⟩) (by assumption) ?_
                try simp only [List.getElem_toArray, List.getElem_cons_succ, List.getElem_cons_zero, Act.put, List.setIfInBounds_toArray, List.set_cons_succ, List.set_cons_zero]
                refine wpAnyH_take (i := 11) (v := undef) rfl (by kernel_rfl) (by kernel_rfl) (by kernel_rfl) (fun _ _ _ h => h) (Or.inr ⟨by rfl, rfl⟩) (by assumption) ?_
                try simp only [List.getElem_toArray, List.getElem_cons_succ, List.getElem_cons_zero, Act.put, List.setIfInBounds_toArray, List.set_cons_succ, List.set_cons_zero]
                refine wpAnyH_take (i := 12) (v := undef) rfl (by kernel_rfl) (by kernel_rfl) (by kernel_rfl) (fun _ _ _ h => h) (Or.inr ⟨by rfl, rfl⟩) (by assumption) ?_
                try simp only [List.getElem_toArray, List.getElem_cons_succ, List.getElem_cons_zero, Act.put, List.setIfInBounds_toArray, List.set_cons_succ, List.set_cons_zero]
                refine wpAnyH_take (i := 13) (v := undef) rfl (by kernel_rfl) (by kernel_rfl) (by kernel_rfl) (fun _ _ _ h => h) (Or.inr ⟨by rfl, rfl⟩) (by assumption) ?_
                try simp only [List.getElem_toArray, List.getElem_cons_succ, List.getElem_cons_zero, Act.put, List.setIfInBounds_toArray, List.set_cons_succ, List.set_cons_zero]
                refine wpAnyH_take (i := 14) (v := undef) rfl (by kernel_rfl) (by kernel_rfl) (by kernel_rfl) (fun _ _ _ h => h) (Or.inr ⟨by rfl, rfl⟩) (by assumption) ?_
                try simp only [List.getElem_toArray, List.getElem_cons_succ, List.getElem_cons_zero, Act.put, List.setIfInBounds_toArray, List.set_cons_succ, List.set_cons_zero]
                refine wpAnyH_take (i := 15) (v := undef) rfl (by kernel_rfl) (by kernel_rfl) (by kernel_rfl) (fun _ _ _ h => h) (Or.inr ⟨by rfl, rfl⟩) (by assumption) ?_
                try simp only [List.getElem_toArray, List.getElem_cons_succ, List.getElem_cons_zero, Act.put, List.setIfInBounds_toArray, List.set_cons_succ, List.set_cons_zero]
                refine wpAnyH_take (i := 16) (v := undef) rfl (by kernel_rfl) (by kernel_rfl) (by kernel_rfl) (fun _ _ _ h => h) (Or.inr ⟨by rfl, rfl⟩) (by assumption) ?_
                try simp only [List.getElem_toArray, List.getElem_cons_succ, List.getElem_cons_zero, Act.put, List.setIfInBounds_toArray, List.set_cons_succ, List.set_cons_zero]
                refine wpAnyH_take (i := 17) (v := undef) rfl (by kernel_rfl) (by kernel_rfl) (by kernel_rfl) (fun _ _ _ h => h) (Or.inr ⟨by rfl, rfl⟩) (by assumption) ?_
                try simp only [List.getElem_toArray, List.getElem_cons_succ, List.getElem_cons_zero, Act.put, List.setIfInBounds_toArray, List.set_cons_succ, List.set_cons_zero]
                refine wpAnyH_take (i := 18) (v := undef) rfl (by kernel_rfl) (by kernel_rfl) (by kernel_rfl) (fun _ _ _ h => h) (Or.inr ⟨by rfl, rfl⟩) (by assumption) ?_
                try simp only [List.getElem_toArray, List.getElem_cons_succ, List.getElem_cons_zero, Act.put, List.setIfInBounds_toArray, List.set_cons_succ, List.set_cons_zero]
                refine wpAnyH_take (i := 19) (v := undef) rfl (by kernel_rfl) (by kernel_rfl) (by kernel_rfl) (fun _ _ _ h => h) (Or.inr ⟨by rfl, rfl⟩) (by assumption) ?_
                try simp only [List.getElem_toArray, List.getElem_cons_succ, List.getElem_cons_zero, Act.put, List.setIfInBounds_toArray, List.set_cons_succ, List.set_cons_zero]
                refine wpAnyH_take (i := 20) (v := undef) rfl (by kernel_rfl) (by kernel_rfl) (by kernel_rfl) (fun _ _ _ h => h) (Or.inr ⟨by rfl, rfl⟩) (by assumption) ?_
                try simp only [List.getElem_toArray, List.getElem_cons_succ, List.getElem_cons_zero, Act.put, List.setIfInBounds_toArray, List.set_cons_succ, List.set_cons_zero]
                refine wpAnyH_take (i := 21) (v := undef) rfl (by kernel_rfl) (by kernel_rfl) (by kernel_rfl) (fun _ _ _ h => h) (Or.inr ⟨by rfl, rfl⟩) (by assumption) ?_
                try simp only [List.getElem_toArray, List.getElem_cons_succ, List.getElem_cons_zero, Act.put, List.setIfInBounds_toArray, List.set_cons_succ, List.set_cons_zero]
                refine wpAnyH_take (i := 22) (v := undef) rfl (by kernel_rfl) (by kernel_rfl) (by kernel_rfl) (fun _ _ _ h => h) (Or.inr ⟨by rfl, rfl⟩) (by assumption) ?_
                try simp only [List.getElem_toArray, List.getElem_cons_succ, List.getElem_cons_zero, Act.put, List.setIfInBounds_toArray, List.set_cons_succ, List.set_cons_zero]
                refine wpAnyH_take (i := 23) (v := undef) rfl (by kernel_rfl) (by kernel_rfl) (by kernel_rfl) (fun _ _ _ h => h) (Or.inr ⟨by rfl, rfl⟩) (by assumption) ?_
                try simp only [List.getElem_toArray, List.getElem_cons_succ, List.getElem_cons_zero, Act.put, List.setIfInBounds_toArray, List.set_cons_succ, List.set_cons_zero]
                refine wpAnyH_take (i := 24) (v := undef) rfl (by kernel_rfl) (by kernel_rfl) (by kernel_rfl) (fun _ _ _ h => h) (Or.inr ⟨by rfl, rfl⟩) (by assumption) ?_
                try simp only [List.getElem_toArray, List.getElem_cons_succ, List.getElem_cons_zero, Act.put, List.setIfInBounds_toArray, List.set_cons_succ, List.set_cons_zero]
                refine wpAnyH_take (i := 25) (v := undef) rfl (by kernel_rfl) (by kernel_rfl) (by kernel_rfl) (fun _ _ _ h => h) (Or.inr ⟨by rfl, rfl⟩) (by assumption) ?_
                try simp only [List.getElem_toArray, List.getElem_cons_succ, List.getElem_cons_zero, Act.put, List.setIfInBounds_toArray, List.set_cons_succ, List.set_cons_zero]
                refine wpAnyH_take (i := 26) (v := ?_) rfl (by kernel_rfl) (by kernel_rfl) (by kernel_rfl) (fun _ _ _ h => h) (Or.inl ⟨by rfl, ?_⟩) (by assumption) ?_
                rotate_left
                · (intro w' hSw; (try dsimp only at hSw); go_simp; try with_reducible rfl)
                try simp only [List.getElem_toArray, List.getElem_cons_succ, List.getElem_cons_zero, Act.put, List.setIfInBounds_toArray, List.set_cons_succ, List.set_cons_zero]
                refine wpAnyH_done (by kernel_rfl) ?_ _
                have hbz1 : Below W1.heap.size W1 wc6 := ((((Below.refl W1.heap.size W1).drew).trans (show Below W1.heap.size W1.drew wc3 from hbc3)).trans (hbc5.mono (show W1.heap.size ≤ wc3.heap.size from hbc3.size))).trans (hbc6.mono (Nat.le_trans (show W1.heap.size ≤ wc3.heap.size from hbc3.size) hbc5.size))
                have HBZ := Lib.hid (HBA.out.trans (hbz1.mono HBA.out.size))
                clear hbz1
                clear hbc3 hbc5 hbc6 hHeld
                go_wp2
                go_ret
                exact ⟨ret_bool (by rw [HF3.out, HNO.out]), HBZ.out⟩
              · have hd : decide (0 ≤ z) = false := decide_eq_false hz0
                have HOK1 : Hid (V.okAt n l k = (decide (k = 0) || V.nextB n (l.getD (k - 1) V.noI) x)) := Lib.hid (by rw [HOK0.out, decide_eq_true (show z < 0 by omega)]; rfl)
                clear hz0
                by_cases hk0 : k = 0
                · have HOK : Hid (∀ i, i < k + 1 → V.okAt n l i = true) := Lib.hid (okTo_step HZ.out (by rw [HOK1.out, decide_eq_true hk0]; rfl))
                  have hkd : decide ((0 : Int) < (k : Int)) = false := decide_eq_false (by omega)
                  have hkn : decide (0 < k) = false := decide_eq_false (by omega)
                  clear hk0
                  refine wp_region_held_drew (S := (fun W' => MaxOk W' ∧ W'.cell? ⟨w.heap.size, 0, none⟩ = some (.int .i64 n) ∧ W'.cell? ⟨w.heap.size, 1, none⟩ = some (.slice (some ⟨b, off, none⟩) l.length vc) ∧ W'.cell? ⟨wr.heap.size, 0, none⟩ = some (.string ⟨x.lo.toArray⟩) ∧ W'.cell? ⟨wr.heap.size, 1, none⟩ = some (.int .i64 x.lk) ∧ W'.cell? ⟨wr.heap.size, 2, none⟩ = some (.string ⟨x.hi.toArray⟩) ∧ W'.cell? ⟨wr.heap.size, 3, none⟩ = some (.int .i64 x.hk))) (by kernel_rfl) (by (try dsimp only); (try simp only [World.cell?_drew]); exact ⟨HM1.out.below (Below.refl _ _).drew, e0, e1, f0, f1, f2, f3⟩) (fun hHeld => ?_)
                  refine wpAnyH_take (i := 0) (v := ?_) rfl (by kernel_rfl) (by kernel_rfl) (by kernel_rfl) (fun _ _ _ h => h) (Or.inl ⟨by rfl, ?_⟩) (by assumption) ?_
                  rotate_left
                  · (intro w' hSw; (try dsimp only at hSw); go_simp; try with_reducible rfl)
                  try simp only [List.getElem_toArray, List.getElem_cons_zero, Act.put, List.setIfInBounds_toArray, List.set_cons_succ, List.set_cons_zero]
                  refine wpAnyH_take (i := 1) (v := ?_) rfl (by kernel_rfl) (by kernel_rfl) (by kernel_rfl) (fun _ _ _ h => h) (Or.inl ⟨by rfl, ?_⟩) (by assumption) ?_
                  rotate_left
                  · (intro w' hSw; (try dsimp only at hSw); go_simp; try with_reducible rfl)
                  try simp only [List.getElem_toArray, List.getElem_cons_succ, List.getElem_cons_zero, Act.put, List.setIfInBounds_toArray, List.set_cons_succ, List.set_cons_zero]
                  refine wpAnyH_take (i := 2) (v := ?_) rfl (by kernel_rfl) (by kernel_rfl) (by kernel_rfl) (fun _ _ _ h => h) (Or.inl ⟨by rfl, ?_⟩) (by assumption) ?_
                  rotate_left
                  · (intro w' hSw; (try dsimp only at hSw); go_simp; try with_reducible rfl)
                  try simp only [List.getElem_toArray, List.getElem_cons_succ, List.getElem_cons_zero, Act.put, List.setIfInBounds_toArray, List.set_cons_succ, List.set_cons_zero]
                  refine wpAnyH_take (i := 4) (v := ?_) rfl (by kernel_rfl) (by kernel_rfl) (by kernel_rfl) (fun _ _ _ h => h) (Or.inl ⟨by rfl, ?_⟩) (by assumption) ?_
                  rotate_left
                  · (intro w' hSw; (try dsimp only at hSw); go_simp; try with_reducible rfl)
                  try simp only [List.getElem_toArray, List.getElem_cons_succ, List.getElem_cons_zero, Act.put, List.setIfInBounds_toArray, List.set_cons_succ, List.set_cons_zero]
                  refine wpAnyH_ready (rs := [3]) (by kernel_rfl) (by simp) ?_
                  refine AllReadyH.cons (o := _) rfl (fun K hK => ?_) AllReadyH.nil
                  go_simp
                  refine (rrLow_any x _).mono ?_
                  rintro e wc3 ⟨rfl, hbc3⟩
                  try dsimp only
                  refine hK.out _ _ ?_ (fun hHeld => ?_)
                  · (try dsimp only); go_split_ands; exact ⟨MaxOk.below (by assumption) hbc3, below_keep hbc3 (by assumption), below_keep hbc3 (by assumption), below_keep hbc3 (by assumption), below_keep hbc3 (by assumption), below_keep hbc3 (by assumption), below_keep hbc3 (by assumption)⟩
                  clear hK K
                  try simp only [List.getElem_toArray, List.getElem_cons_succ, List.getElem_cons_zero, Act.put, List.setIfInBounds_toArray, List.set_cons_succ, List.set_cons_zero]
                  refine wpAnyH_ready (rs := [5]) (by kernel_rfl) (by simp) ?_
                  refine AllReadyH.cons (o := _) rfl (fun K hK => ?_) AllReadyH.nil
                  go_simp
                  refine (rrHigh_any x _).mono ?_
                  rintro e wc5 ⟨rfl, hbc5⟩
                  try dsimp only
                  refine hK.out _ _ ?_ (fun hHeld => ?_)
                  · (try dsimp only); go_split_ands; exact ⟨MaxOk.below (by assumption) hbc5, below_keep hbc5 (by assumption), below_keep hbc5 (by assumption), below_keep hbc5 (by assumption), below_keep hbc5 (by assumption), below_keep hbc5 (by assumption), below_keep hbc5 (by assumption)⟩
                  clear hK K
                  try simp only [List.getElem_toArray, List.getElem_cons_succ, List.getElem_cons_zero, Act.put, List.setIfInBounds_toArray, List.set_cons_succ, List.set_cons_zero]
                  refine wpAnyH_ready (rs := [6]) (by kernel_rfl) (by simp) ?_
                  refine AllReadyH.cons (o := _) rfl (fun K hK => ?_) AllReadyH.nil
                  go_simp
                  refine (HC1.out _ (by first | assumption | exact And.left (by assumption)) HSC.out (V.eLow_ok HBK.out) (V.eHigh_ok HBK.out)).mono ?_
                  rintro e wc6 ⟨rfl, hbc6⟩
                  try dsimp only
                  refine hK.out _ _ ?_ (fun hHeld => ?_)
                  · (try dsimp only); go_split_ands; exact ⟨MaxOk.below (by assumption) hbc6, below_keep hbc6 (by assumption), below_keep hbc6 (by assumption), below_keep hbc6 (by assumption), below_keep hbc6 (by assumption), below_keep hbc6 (by assumption), below_keep hbc6 (by assumption)⟩
                  clear hK K
                  try simp only [List.getElem_toArray, List.getElem_cons_succ, List.getElem_cons_zero, Act.put, List.setIfInBounds_toArray, List.set_cons_succ, List.set_cons_zero]
                  refine wpAnyH_take (i := 7) (v := ?_) rfl (by kernel_rfl) (by kernel_rfl) (by kernel_rfl) (fun _ _ _ h => h) (Or.inl ⟨by rfl, ?_⟩) (by assumption) ?_
                  rotate_left
                  · (intro w' hSw; (try dsimp only at hSw); go_simp; try with_reducible rfl)
                  try simp only [List.getElem_toArray, List.getElem_cons_succ, List.getElem_cons_zero, Act.put, List.setIfInBounds_toArray, List.set_cons_succ, List.set_cons_zero]
                  refine wpAnyH_take (i := 8) (v := ?_) rfl (by kernel_rfl) (by kernel_rfl) (by kernel_rfl) (fun _ _ _ h => h) (Or.inl ⟨by rfl, ?_⟩) (by assumption) ?_
                  rotate_left
                  · (intro w' hSw; (try dsimp only at hSw); go_simp; try with_reducible rfl)
                  try simp only [List.getElem_toArray, List.getElem_cons_succ, List.getElem_cons_zero, Act.put, List.setIfInBounds_toArray, List.set_cons_succ, List.set_cons_zero]
                  refine wpAnyH_take (i := 9) (v := ?_) rfl (by kernel_rfl) (by kernel_rfl) (by kernel_rfl) (fun _ _ _ h => h) (Or.inl ⟨by rfl, ?_⟩) (by assumption) ?_
                  rotate_left
                  · (intro w' hSw; (try dsimp only at hSw); go_simp; try with_reducible rfl)
                  try simp only [List.getElem_toArray, List.getElem_cons_succ, List.getElem_cons_zero, Act.put, List.setIfInBounds_toArray, List.set_cons_succ, List.set_cons_zero]
                  refine wpAnyH_take (i := 10) (v := ?_) rfl (by kernel_rfl) (by kernel_rfl) (by kernel_rfl) (fun _ _ _ h => h) (Or.inl ⟨by rfl, ?_⟩) (by assumption) ?_
                  rotate_left
                  · (intro w' hSw; (try dsimp only at hSw); go_simp; try with_reducible rfl)
                  try simp only [List.getElem_toArray, List.getElem_cons_succ, List.getElem_cons_zero, Act.put, List.setIfInBounds_toArray, List.set_cons_succ, List.set_cons_zero]
                  refine wpAnyH_take (i := 11) (v := ?_) rfl (by kernel_rfl) (by kernel_rfl) (by kernel_rfl) (fun _ _ _ h => h) (Or.inl ⟨by rfl, ?_⟩) (by assumption) ?_
                  rotate_left
                  · (intro w' hSw; (try dsimp only at hSw); go_simp; try with_reducible rfl)
                  try simp only [List.getElem_toArray, List.getElem_cons_succ, List.getElem_cons_zero, Act.put, List.setIfInBounds_toArray, List.set_cons_succ, List.set_cons_zero]
                  refine wpAnyH_take (i := 12) (v := undef) rfl (by kernel_rfl) (by kernel_rfl) (by kernel_rfl) (fun _ _ _ h => h) (Or.inr ⟨by rfl, rfl⟩) (by assumption) ?_
                  try simp only [List.getElem_toArray, List.getElem_cons_succ, List.getElem_cons_zero, Act.put, List.setIfInBounds_toArray, List.set_cons_succ, List.set_cons_zero]
                  refine wpAnyH_take (i := 13) (v := undef) rfl (by kernel_rfl) (by kernel_rfl) (by kernel_rfl) (fun _ _ _ h => h) (Or.inr ⟨by rfl, rfl⟩) (by assumption) ?_
                  try simp only [List.getElem_toArray, List.getElem_cons_succ, List.getElem_cons_zero, Act.put, List.setIfInBounds_toArray, List.set_cons_succ, List.set_cons_zero]
                  refine wpAnyH_take (i := 14) (v := undef) rfl (by kernel_rfl) (by kernel_rfl) (by kernel_rfl) (fun _ _ _ h => h) (Or.inr ⟨by rfl, rfl⟩) (by assumption) ?_
                  try simp only [List.getElem_toArray, List.getElem_cons_succ, List.getElem_cons_zero, Act.put, List.setIfInBounds_toArray, List.set_cons_succ, List.set_cons_zero]
                  refine wpAnyH_take (i := 15) (v := undef) rfl (by kernel_rfl) (by kernel_rfl) (by kernel_rfl) (fun _ _ _ h => h) (Or.inr ⟨by rfl, rfl⟩) (by assumption) ?_
                  try simp only [List.getElem_toArray, List.getElem_cons_succ, List.getElem_cons_zero, Act.put, List.setIfInBounds_toArray, List.set_cons_succ, List.set_cons_zero]
                  refine wpAnyH_take (i := 16) (v := undef) rfl (by kernel_rfl) (by kernel_rfl) (by kernel_rfl) (fun _ _ _ h => h) (Or.inr ⟨by rfl, rfl⟩) (by assumption) ?_
                  try simp only [List.getElem_toArray, List.getElem_cons_succ, List.getElem_cons_zero, Act.put, List.setIfInBounds_toArray, List.set_cons_succ, List.set_cons_zero]
                  refine wpAnyH_take (i := 17) (v := undef) rfl (by kernel_rfl) (by kernel_rfl) (by kernel_rfl) (fun _ _ _ h => h) (Or.inr ⟨by rfl, rfl⟩) (by assumption) ?_
                  try simp only [List.getElem_toArray, List.getElem_cons_succ, List.getElem_cons_zero, Act.put, List.setIfInBounds_toArray, List.set_cons_succ, List.set_cons_zero]
                  refine wpAnyH_take (i := 18) (v := undef) rfl (by kernel_rfl) (by kernel_rfl) (by kernel_rfl) (fun _ _ _ h => h) (Or.inr ⟨by rfl, rfl⟩) (by assumption) ?_
                  try simp only [List.getElem_toArray, List.getElem_cons_succ, List.getElem_cons_zero, Act.put, List.setIfInBounds_toArray, List.set_cons_succ, List.set_cons_zero]
                  refine wpAnyH_take (i := 19) (v := undef) rfl (by kernel_rfl) (by kernel_rfl) (by kernel_rfl) (fun _ _ _ h => h) (Or.inr ⟨by rfl, rfl⟩) (by assumption) ?_
                  try simp only [List.getElem_toArray, List.getElem_cons_succ, List.getElem_cons_zero, Act.put, List.setIfInBounds_toArray, List.set_cons_succ, List.set_cons_zero]
                  refine wpAnyH_take (i := 20) (v := undef) rfl (by kernel_rfl) (by kernel_rfl) (by kernel_rfl) (fun _ _ _ h => h) (Or.inr ⟨by rfl, rfl⟩) (by assumption) ?_
                  try simp only [List.getElem_toArray, List.getElem_cons_succ, List.getElem_cons_zero, Act.put, List.setIfInBounds_toArray, List.set_cons_succ, List.set_cons_zero]
                  refine wpAnyH_take (i := 21) (v := undef) rfl (by kernel_rfl) (by kernel_rfl) (by kernel_rfl) (fun _ _ _ h => h) (Or.inr ⟨by rfl, rfl⟩) (by assumption) ?_
                  try simp only [List.getElem_toArray, List.getElem_cons_succ, List.getElem_cons_zero, Act.put, List.setIfInBounds_toArray, List.set_cons_succ, List.set_cons_zero]
                  refine wpAnyH_take (i := 22) (v := undef) rfl (by kernel_rfl) (by kernel_rfl) (by kernel_rfl) (fun _ _ _ h => h) (Or.inr ⟨by rfl, rfl⟩) (by assumption) ?_
                  try simp only [List.getElem_toArray, List.getElem_cons_succ, List.getElem_cons_zero, Act.put, List.setIfInBounds_toArray, List.set_cons_succ, List.set_cons_zero]
                  refine wpAnyH_take (i := 23) (v := undef) rfl (by kernel_rfl) (by kernel_rfl) (by kernel_rfl) (fun _ _ _ h => h) (Or.inr ⟨by rfl, rfl⟩) (by assumption) ?_
                  try simp only [List.getElem_toArray, List.getElem_cons_succ, List.getElem_cons_zero, Act.put, List.setIfInBounds_toArray, List.set_cons_succ, List.set_cons_zero]
                  refine wpAnyH_take (i := 24) (v := undef) rfl (by kernel_rfl) (by kernel_rfl) (by kernel_rfl) (fun _ _ _ h => h) (Or.inr ⟨by rfl, rfl⟩) (by assumption) ?_
                  try simp only [List.getElem_toArray, List.getElem_cons_succ, List.getElem_cons_zero, Act.put, List.setIfInBounds_toArray, List.set_cons_succ, List.set_cons_zero]
                  refine wpAnyH_take (i := 25) (v := ?_) rfl (by kernel_rfl) (by kernel_rfl) (by kernel_rfl) (fun _ _ _ h => h) (Or.inl ⟨by rfl, ?_⟩) (by assumption) ?_
                  rotate_left
                  · (intro w' hSw; (try dsimp only at hSw); go_simp; try with_reducible rfl)
                  try simp only [List.getElem_toArray, List.getElem_cons_succ, List.getElem_cons_zero, Act.put, List.setIfInBounds_toArray, List.set_cons_succ, List.set_cons_zero]
                  refine wpAnyH_take (i := 26) (v := ?_) rfl (by kernel_rfl) (by kernel_rfl) (by kernel_rfl) (fun _ _ _ h => h) (Or.inl ⟨by rfl, ?_⟩) (by assumption) ?_
                  rotate_left
                  · (intro w' hSw; (try dsimp only at hSw); go_simp; try with_reducible rfl)
                  try simp only [List.getElem_toArray, List.getElem_cons_succ, List.getElem_cons_zero, Act.put, List.setIfInBounds_toArray, List.set_cons_succ, List.set_cons_zero]
                  refine wpAnyH_done (by kernel_rfl) ?_ _
                  have hbz1 : Below W1.heap.size W1 wc6 := ((((Below.refl W1.heap.size W1).drew).trans (show Below W1.heap.size W1.drew wc3 from hbc3)).trans (hbc5.mono (show W1.heap.size ≤ wc3.heap.size from hbc3.size))).trans (hbc6.mono (Nat.le_trans (show W1.heap.size ≤ wc3.heap.size from hbc3.size) hbc5.size))
                  have HBZ := Lib.hid (HBAW.out.trans (hbz1.mono HBAW.out.size))
                  clear hbz1
                  clear hbc3 hbc5 hbc6 hHeld
                  go_wp2
                  go_roundw
                  case rel => exact ⟨k + 1, by omega, by go_num, HOK.out, HBZ.out⟩
                  case measure => simp [intOf]; omega
                · have hkd : decide ((0 : Int) < (k : Int)) = true := decide_eq_true (by omega)
                  have hkp : 0 < k := by omega
                  have hkn : decide (0 < k) = true := decide_eq_true (by omega)
                  have hi3 : (1 : Int) ≤ (k : Int) := by omega
                  have hi4 : (k : Int) - 1 < (l.length : Int) := by omega
                  have hi5 : (0 : Int) ≤ (k : Int) - 1 := by omega
                  have hi6 : IntKind.i64.wrap ((k : Int) - 1) = (k : Int) - 1 := by rw [IntKind.wrap_i64]; omega
                  have hi7 : ((k : Int) - 1).toNat = k - 1 := by omega
                  have hk1 : k - 1 < l.length := by omega
                  obtain ⟨b', off', eb, hb1, hy⟩ := HV.out.at (k - 1) hk1
                  cases eb
                  obtain ⟨y0, y1, y2, y3⟩ := hy.below hb1 HBA.out
                  have HBY : Hid (V.boundsB n l[k - 1] = true) := Lib.hid (HALL.out _ (List.getElem_mem hk1))
                  have HGY := Lib.hid (getI_of hk1)
                  generalize l[k - 1] = y at *
                  obtain ⟨z2, hz2⟩ : ∃ z, z = V.ecmp n (V.eHigh y) (V.eLow x) := ⟨_, rfl⟩
                  have HOK2 : Hid (V.okAt n l k = decide (z2 < 0)) := Lib.hid (by rw [HOK1.out, decide_eq_false hk0, HGY.out, hz2]; exact (V.ecmp_next HBY.out HBK.out).symm)
                  have hc2 := rrCompare_any n (V.eHigh y) (V.eLow x)
                  rw [← hz2] at hc2
                  have HC2 := Lib.hid hc2
                  clear hz2 hc2 hy hk0 hb1
                  refine wp_region_held_drew (S := (fun W' => MaxOk W' ∧ W'.cell? ⟨w.heap.size, 0, none⟩ = some (.int .i64 n) ∧ W'.cell? ⟨w.heap.size, 1, none⟩ = some (.slice (some ⟨b, off, none⟩) l.length vc) ∧ W'.cell? ⟨wr.heap.size, 0, none⟩ = some (.string ⟨x.lo.toArray⟩) ∧ W'.cell? ⟨wr.heap.size, 1, none⟩ = some (.int .i64 x.lk) ∧ W'.cell? ⟨wr.heap.size, 2, none⟩ = some (.string ⟨x.hi.toArray⟩) ∧ W'.cell? ⟨wr.heap.size, 3, none⟩ = some (.int .i64 x.hk) ∧ W'.cell? ⟨b, off + (k - 1) * 4, none⟩ = some (.string ⟨y.lo.toArray⟩) ∧ W'.cell? ⟨b, off + (k - 1) * 4 + 1, none⟩ = some (.int .i64 y.lk) ∧ W'.cell? ⟨b, off + (k - 1) * 4 + 2, none⟩ = some (.string ⟨y.hi.toArray⟩) ∧ W'.cell? ⟨b, off + (k - 1) * 4 + 3, none⟩ = some (.int .i64 y.hk))) (by kernel_rfl) (by (try dsimp only); (try simp only [World.cell?_drew]); exact ⟨HM1.out.below (Below.refl _ _).drew, e0, e1, f0, f1, f2, f3, y0, y1, y2, y3⟩) (fun hHeld => ?_)
                  refine wpAnyH_take (i := 0) (v := ?_) rfl (by kernel_rfl) (by kernel_rfl) (by kernel_rfl) (fun _ _ _ h => h) (Or.inl ⟨by rfl, ?_⟩) (by assumption) ?_
                  rotate_left
                  · (intro w' hSw; (try dsimp only at hSw); go_simp; try with_reducible rfl)
                  try simp only [List.getElem_toArray, List.getElem_cons_zero, Act.put, List.setIfInBounds_toArray, List.set_cons_succ, List.set_cons_zero]
                  refine wpAnyH_take (i := 1) (v := ?_) rfl (by kernel_rfl) (by kernel_rfl) (by kernel_rfl) (fun _ _ _ h => h) (Or.inl ⟨by rfl, ?_⟩) (by assumption) ?_
                  rotate_left
                  · (intro w' hSw; (try dsimp only at hSw); go_simp; try with_reducible rfl)
                  try simp only [List.getElem_toArray, List.getElem_cons_succ, List.getElem_cons_zero, Act.put, List.setIfInBounds_toArray, List.set_cons_succ, List.set_cons_zero]
                  refine wpAnyH_take (i := 2) (v := ?_) rfl (by kernel_rfl) (by kernel_rfl) (by kernel_rfl) (fun _ _ _ h => h) (Or.inl ⟨by rfl, ?_⟩) (by assumption) ?_
                  rotate_left
                  · (intro w' hSw; (try dsimp only at hSw); go_simp; try with_reducible rfl)
                  try simp only [List.getElem_toArray, List.getElem_cons_succ, List.getElem_cons_zero, Act.put, List.setIfInBounds_toArray, List.set_cons_succ, List.set_cons_zero]
                  refine wpAnyH_take (i := 4) (v := ?_) rfl (by kernel_rfl) (by kernel_rfl) (by kernel_rfl) (fun _ _ _ h => h) (Or.inl ⟨by rfl, ?_⟩) (by assumption) ?_
                  rotate_left
                  · (intro w' hSw; (try dsimp only at hSw); go_simp; try with_reducible rfl)
                  try simp only [List.getElem_toArray, List.getElem_cons_succ, List.getElem_cons_zero, Act.put, List.setIfInBounds_toArray, List.set_cons_succ, List.set_cons_zero]
                  refine wpAnyH_ready (rs := [3]) (by kernel_rfl) (by simp) ?_
                  refine AllReadyH.cons (o := _) rfl (fun K hK => ?_) AllReadyH.nil
                  go_simp
                  refine (rrLow_any x _).mono ?_
                  rintro e wc3 ⟨rfl, hbc3⟩
                  try dsimp only
                  refine hK.out _ _ ?_ (fun hHeld => ?_)
                  · (try dsimp only); go_split_ands; exact ⟨MaxOk.below (by assumption) hbc3, below_keep hbc3 (by assumption), below_keep hbc3 (by assumption), below_keep hbc3 (by assumption), below_keep hbc3 (by assumption), below_keep hbc3 (by assumption), below_keep hbc3 (by assumption), below_keep hbc3 (by assumption), below_keep hbc3 (by assumption), below_keep hbc3 (by assumption), below_keep hbc3 (by assumption)⟩
                  clear hK K
                  try simp only [List.getElem_toArray, List.getElem_cons_succ, List.getElem_cons_zero, Act.put, List.setIfInBounds_toArray, List.set_cons_succ, List.set_cons_zero]
                  refine wpAnyH_ready (rs := [5]) (by kernel_rfl) (by simp) ?_
                  refine AllReadyH.cons (o := _) rfl (fun K hK => ?_) AllReadyH.nil
                  go_simp
                  refine (rrHigh_any x _).mono ?_
                  rintro e wc5 ⟨rfl, hbc5⟩
                  try dsimp only
                  refine hK.out _ _ ?_ (fun hHeld => ?_)
                  · (try dsimp only); go_split_ands; exact ⟨MaxOk.below (by assumption) hbc5, below_keep hbc5 (by assumption), below_keep hbc5 (by assumption), below_keep hbc5 (by assumption), below_keep hbc5 (by assumption), below_keep hbc5 (by assumption), below_keep hbc5 (by assumption), below_keep hbc5 (by assumption), below_keep hbc5 (by assumption), below_keep hbc5 (by assumption), below_keep hbc5 (by assumption)⟩
                  clear hK K
                  try simp only [List.getElem_toArray, List.getElem_cons_succ, List.getElem_cons_zero, Act.put, List.setIfInBounds_toArray, List.set_cons_succ, List.set_cons_zero]
                  refine wpAnyH_ready (rs := [6]) (by kernel_rfl) (by simp) ?_
                  refine AllReadyH.cons (o := _) rfl (fun K hK => ?_) AllReadyH.nil
                  go_simp
                  refine (HC1.out _ (by first | assumption | exact And.left (by assumption)) HSC.out (V.eLow_ok HBK.out) (V.eHigh_ok HBK.out)).mono ?_
                  rintro e wc6 ⟨rfl, hbc6⟩
                  try dsimp only
                  refine hK.out _ _ ?_ (fun hHeld => ?_)
                  · (try dsimp only); go_split_ands; exact ⟨MaxOk.below (by assumption) hbc6, below_keep hbc6 (by assumption), below_keep hbc6 (by assumption), below_keep hbc6 (by assumption), below_keep hbc6 (by assumption), below_keep hbc6 (by assumption), below_keep hbc6 (by assumption), below_keep hbc6 (by assumption), below_keep hbc6 (by assumption), below_keep hbc6 (by assumption), below_keep hbc6 (by assumption)⟩
                  clear hK K
                  try simp only [List.getElem_toArray, List.getElem_cons_succ, List.getElem_cons_zero, Act.put, List.setIfInBounds_toArray, List.set_cons_succ, List.set_cons_zero]
                  refine wpAnyH_take (i := 7) (v := ?_) rfl (by kernel_rfl) (by kernel_rfl) (by kernel_rfl) (fun _ _ _ h => h) (Or.inl ⟨by rfl, ?_⟩) (by assumption) ?_
                  rotate_left
                  · (intro w' hSw; (try dsimp only at hSw); go_simp; try with_reducible rfl)
                  try simp only [List.getElem_toArray, List.getElem_cons_succ, List.getElem_cons_zero, Act.put, List.setIfInBounds_toArray, List.set_cons_succ, List.set_cons_zero]
                  refine wpAnyH_take (i := 8) (v := ?_) rfl (by kernel_rfl) (by kernel_rfl) (by kernel_rfl) (fun _ _ _ h => h) (Or.inl ⟨by rfl, ?_⟩) (by assumption) ?_
                  rotate_left
                  · (intro w' hSw; (try dsimp only at hSw); go_simp; try with_reducible rfl)
                  try simp only [List.getElem_toArray, List.getElem_cons_succ, List.getElem_cons_zero, Act.put, List.setIfInBounds_toArray, List.set_cons_succ, List.set_cons_zero]
                  refine wpAnyH_take (i := 9) (v := ?_) rfl (by kernel_rfl) (by kernel_rfl) (by kernel_rfl) (fun _ _ _ h => h) (Or.inl ⟨by rfl, ?_⟩) (by assumption) ?_
                  rotate_left
                  · (intro w' hSw; (try dsimp only at hSw); go_simp; try with_reducible rfl)
                  try simp only [List.getElem_toArray, List.getElem_cons_succ, List.getElem_cons_zero, Act.put, List.setIfInBounds_toArray, List.set_cons_succ, List.set_cons_zero]
                  refine wpAnyH_take (i := 10) (v := ?_) rfl (by kernel_rfl) (by kernel_rfl) (by kernel_rfl) (fun _ _ _ h => h) (Or.inl ⟨by rfl, ?_⟩) (by assumption) ?_
                  rotate_left
                  · (intro w' hSw; (try dsimp only at hSw); go_simp; try with_reducible rfl)
                  try simp only [List.getElem_toArray, List.getElem_cons_succ, List.getElem_cons_zero, Act.put, List.setIfInBounds_toArray, List.set_cons_succ, List.set_cons_zero]
                  refine wpAnyH_take (i := 11) (v := ?_) rfl (by kernel_rfl) (by kernel_rfl) (by kernel_rfl) (fun _ _ _ h => h) (Or.inl ⟨by rfl, ?_⟩) (by assumption) ?_
                  rotate_left
                  · (intro w' hSw; (try dsimp only at hSw); go_simp; try with_reducible rfl)
                  try simp only [List.getElem_toArray, List.getElem_cons_succ, List.getElem_cons_zero, Act.put, List.setIfInBounds_toArray, List.set_cons_succ, List.set_cons_zero]
                  refine wpAnyH_take (i := 12) (v := ?_) rfl (by kernel_rfl) (by kernel_rfl) (by kernel_rfl) (fun _ _ _ h => h) (Or.inl ⟨by rfl, ?_⟩) (by assumption) ?_
                  rotate_left
                  · (intro w' hSw; (try dsimp only at hSw); go_simp; try with_reducible rfl)
                  try simp only [List.getElem_toArray, List.getElem_cons_succ, List.getElem_cons_zero, Act.put, List.setIfInBounds_toArray, List.set_cons_succ, List.set_cons_zero]
                  refine wpAnyH_take (i := 13) (v := ?_) rfl (by kernel_rfl) (by kernel_rfl) (by kernel_rfl) (fun _ _ _ h => h) (Or.inl ⟨by rfl, ?_⟩) (by assumption) ?_
                  rotate_left
                  · (intro w' hSw; (try dsimp only at hSw); go_simp; try with_reducible rfl)
                  try simp only [List.getElem_toArray, List.getElem_cons_succ, List.getElem_cons_zero, Act.put, List.setIfInBounds_toArray, List.set_cons_succ, List.set_cons_zero]
                  refine wpAnyH_take (i := 14) (v := ?_) rfl (by kernel_rfl) (by kernel_rfl) (by kernel_rfl) (fun _ _ _ h => h) (Or.inl ⟨by rfl, ?_⟩) (by assumption) ?_
                  rotate_left
                  · (intro w' hSw; (try dsimp only at hSw); go_simp; try with_reducible rfl)
                  try simp only [List.getElem_toArray, List.getElem_cons_succ, List.getElem_cons_zero, Act.put, List.setIfInBounds_toArray, List.set_cons_succ, List.set_cons_zero]
                  refine wpAnyH_take (i := 15) (v := ?_) rfl (by kernel_rfl) (by kernel_rfl) (by kernel_rfl) (fun _ _ _ h => h) (Or.inl ⟨by rfl, ?_⟩) (by assumption) ?_
                  rotate_left
                  · (intro w' hSw; (try dsimp only at hSw); go_simp; try with_reducible rfl)
                  try simp only [List.getElem_toArray, List.getElem_cons_succ, List.getElem_cons_zero, Act.put, List.setIfInBounds_toArray, List.set_cons_succ, List.set_cons_zero]
                  refine wpAnyH_take (i := 16) (v := ?_) rfl (by kernel_rfl) (by kernel_rfl) (by kernel_rfl) (fun _ _ _ h => h) (Or.inl ⟨by rfl, ?_⟩) (by assumption) ?_
                  rotate_left
                  · (intro w' hSw; (try dsimp only at hSw); go_simp; try with_reducible rfl)
                  try simp only [List.getElem_toArray, List.getElem_cons_succ, List.getElem_cons_zero, Act.put, List.setIfInBounds_toArray, List.set_cons_succ, List.set_cons_zero]
                  refine wpAnyH_take (i := 17) (v := ?_) rfl (by kernel_rfl) (by kernel_rfl) (by kernel_rfl) (fun _ _ _ h => h) (Or.inl ⟨by rfl, ?_⟩) (by assumption) ?_
                  rotate_left
                  · (intro w' hSw; (try dsimp only at hSw); go_simp; try with_reducible rfl)
                  try simp only [List.getElem_toArray, List.getElem_cons_succ, List.getElem_cons_zero, Act.put, List.setIfInBounds_toArray, List.set_cons_succ, List.set_cons_zero]
                  refine wpAnyH_take (i := 18) (v := ?_) rfl (by kernel_rfl) (by kernel_rfl) (by kernel_rfl) (fun _ _ _ h => h) (Or.inl ⟨by rfl, ?_⟩) (by assumption) ?_
                  rotate_left
                  · (intro w' hSw; (try dsimp only at hSw); go_simp; try with_reducible rfl)
                  try simp only [List.getElem_toArray, List.getElem_cons_succ, List.getElem_cons_zero, Act.put, List.setIfInBounds_toArray, List.set_cons_succ, List.set_cons_zero]
                  refine wpAnyH_take (i := 19) (v := ?_) rfl (by kernel_rfl) (by kernel_rfl) (by kernel_rfl) (fun _ _ _ h => h) (Or.inl ⟨by rfl, ?_⟩) (by assumption) ?_
                  rotate_left
                  · (intro w' hSw; (try dsimp only at hSw); go_simp; try with_reducible rfl)
                  try simp only [List.getElem_toArray, List.getElem_cons_succ, List.getElem_cons_zero, Act.put, List.setIfInBounds_toArray, List.set_cons_succ, List.set_cons_zero]
                  refine wpAnyH_take (i := 21) (v := ?_) rfl (by kernel_rfl) (by kernel_rfl) (by kernel_rfl) (fun _ _ _ h => h) (Or.inl ⟨by rfl, ?_⟩) (by assumption) ?_
                  rotate_left
                  · (intro w' hSw; (try dsimp only at hSw); go_simp; try with_reducible rfl)
                  try simp only [List.getElem_toArray, List.getElem_cons_succ, List.getElem_cons_zero, Act.put, List.setIfInBounds_toArray, List.set_cons_succ, List.set_cons_zero]
                  refine wpAnyH_ready (rs := [20]) (by kernel_rfl) (by simp) ?_
                  refine AllReadyH.cons (o := _) rfl (fun K hK => ?_) AllReadyH.nil
                  go_simp
                  refine (rrHigh_any y _).mono ?_
                  rintro e wc20 ⟨rfl, hbc20⟩
                  try dsimp only
                  refine hK.out _ _ ?_ (fun hHeld => ?_)
                  · (try dsimp only); go_split_ands; exact ⟨MaxOk.below (by assumption) hbc20, below_keep hbc20 (by assumption), below_keep hbc20 (by assumption), below_keep hbc20 (by assumption), below_keep hbc20 (by assumption), below_keep hbc20 (by assumption), below_keep hbc20 (by assumption), below_keep hbc20 (by assumption), below_keep hbc20 (by assumption), below_keep hbc20 (by assumption), below_keep hbc20 (by assumption)⟩
                  clear hK K
                  try simp only [List.getElem_toArray, List.getElem_cons_succ, List.getElem_cons_zero, Act.put, List.setIfInBounds_toArray, List.set_cons_succ, List.set_cons_zero]
                  refine wpAnyH_ready (rs := [22]) (by kernel_rfl) (by simp) ?_
                  refine AllReadyH.cons (o := _) rfl (fun K hK => ?_) AllReadyH.nil
                  go_simp
                  refine (rrLow_any x _).mono ?_
                  rintro e wc22 ⟨rfl, hbc22⟩
                  try dsimp only
                  refine hK.out _ _ ?_ (fun hHeld => ?_)
                  · (try dsimp only); go_split_ands; exact ⟨MaxOk.below (by assumption) hbc22, below_keep hbc22 (by assumption), below_keep hbc22 (by assumption), below_keep hbc22 (by assumption), below_keep hbc22 (by assumption), below_keep hbc22 (by assumption), below_keep hbc22 (by assumption), below_keep hbc22 (by assumption), below_keep hbc22 (by assumption), below_keep hbc22 (by assumption), below_keep hbc22 (by assumption)⟩
                  clear hK K
                  try simp only [List.getElem_toArray, List.getElem_cons_succ, List.getElem_cons_zero, Act.put, List.setIfInBounds_toArray, List.set_cons_succ, List.set_cons_zero]
                  refine wpAnyH_ready (rs := [23]) (by kernel_rfl) (by simp) ?_
                  refine AllReadyH.cons (o := _) rfl (fun K hK => ?_) AllReadyH.nil
                  go_simp
                  refine (HC2.out _ (by first | assumption | exact And.left (by assumption)) HSC.out (V.eHigh_ok HBY.out) (V.eLow_ok HBK.out)).mono ?_
                  rintro e wc23 ⟨rfl, hbc23⟩
                  try dsimp only
                  refine hK.out _ _ ?_ (fun hHeld => ?_)
                  · (try dsimp only); go_split_ands; exact ⟨MaxOk.below (by assumption) hbc23, below_keep hbc23 (by assumption), below_keep hbc23 (by assumption), below_keep hbc23 (by assumption), below_keep hbc23 (by assumption), below_keep hbc23 (by assumption), below_keep hbc23 (by assumption), below_keep hbc23 (by assumption), below_keep hbc23 (by assumption), below_keep hbc23 (by assumption), below_keep hbc23 (by assumption)⟩
                  clear hK K
                  try simp only [List.getElem_toArray, List.getElem_cons_succ, List.getElem_cons_zero, Act.put, List.setIfInBounds_toArray, List.set_cons_succ, List.set_cons_zero]
                  refine wpAnyH_take (i := 24) (v := ?_) rfl (by kernel_rfl) (by kernel_rfl) (by kernel_rfl) (fun _ _ _ h => h) (Or.inl ⟨by rfl, ?_⟩) (by assumption) ?_
                  rotate_left
                  · (intro w' hSw; (try dsimp only at hSw); go_simp; try with_reducible rfl)
                  try simp only [List.getElem_toArray, List.getElem_cons_succ, List.getElem_cons_zero, Act.put, List.setIfInBounds_toArray, List.set_cons_succ, List.set_cons_zero]
                  refine wpAnyH_take (i := 25) (v := ?_) rfl (by kernel_rfl) (by kernel_rfl) (by kernel_rfl) (fun _ _ _ h => h) (Or.inl ⟨by rfl, ?_⟩) (by assumption) ?_
                  rotate_left
                  · (intro w' hSw; (try dsimp only at hSw); go_simp; try with_reducible rfl)
                  try simp only [List.getElem_toArray, List.getElem_cons_succ, List.getElem_cons_zero, Act.put, List.setIfInBounds_toArray, List.set_cons_succ, List.set_cons_zero]
                  refine wpAnyH_take (i := 26) (v := ?_) rfl (by kernel_rfl) (by kernel_rfl) (by kernel_rfl) (fun _ _ _ h => h) (Or.inl ⟨by rfl, ?_⟩) (by assumption) ?_
                  rotate_left
                  · (intro w' hSw; (try dsimp only at hSw); go_simp; try with_reducible rfl)
                  try simp only [List.getElem_toArray, List.getElem_cons_succ, List.getElem_cons_zero, Act.put, List.setIfInBounds_toArray, List.set_cons_succ, List.set_cons_zero]
                  refine wpAnyH_done (by kernel_rfl) ?_ _
                  have hbz1 : Below W1.heap.size W1 wc6 := ((((Below.refl W1.heap.size W1).drew).trans (show Below W1.heap.size W1.drew wc3 from hbc3)).trans (hbc5.mono (show W1.heap.size ≤ wc3.heap.size from hbc3.size))).trans (hbc6.mono (Nat.le_trans (show W1.heap.size ≤ wc3.heap.size from hbc3.size) hbc5.size))
                  have hbz2 : Below wc6.heap.size wc6 wc23 := (hbc20.trans (hbc22.mono hbc20.size)).trans (hbc23.mono (Nat.le_trans hbc20.size hbc22.size))
                  have HBZ := Lib.hid (HBAW.out.trans ((hbz1.trans (hbz2.mono hbz1.size)).mono HBAW.out.size))
                  have HBZ0 := Lib.hid (HBA.out.trans ((hbz1.trans (hbz2.mono hbz1.size)).mono HBA.out.size))
                  clear hbc3 hbc5 hbc6 hbc20 hbc22 hbc23 hHeld hbz1 hbz2
                  by_cases hz2 : 0 ≤ z2
                  · have HNO : Hid (V.ordB n l = false) := Lib.hid (ord_no hlt (by rw [HOK2.out]; exact decide_eq_false (by omega)))
                    go_wp2
                    go_ret
                    exact ⟨ret_bool (by rw [HF3.out, HNO.out]), HBZ0.out⟩
                  · have HOK : Hid (∀ i, i < k + 1 → V.okAt n l i = true) := Lib.hid (okTo_step HZ.out (by rw [HOK2.out]; exact decide_eq_true (by omega)))
                    go_wp2
                    go_roundw
                    case rel => exact ⟨k + 1, by omega, by go_num, HOK.out, HBZ.out⟩
                    case measure => simp [intOf]; omega
            · obtain rfl : k = l.length := by omega
              have HR : Hid (V.okR n l = true) := Lib.hid (by rw [HF3.out]; exact (V.ordB_iff n l).2 HZ.out)
              go_wp2
              go_ret
              exact ⟨ret_bool HR.out.symm, HBG.out⟩
end Go.Proofs.YtpjjkbdkgaehkaaGreatDoor

/-
  Lemmas for the law.
-/
import Derived.Test.YtbikeahmldobkaaGreatDoorC41x23
import Derived.Test.YtbikeahmldobkaaGreatDoorC41x24
set_option linter.all false
set_option maxRecDepth 100000
set_option maxHeartbeats 3200000
namespace Go.Proofs.YtbikeahmldobkaaGreatDoor
open Go.RowKit
theorem zp9 {P : Prop} (h : P := by
 go_enter Tryz.func96, Tryz.ntmps96
 go_wp2_with fail
 generalize w.alloc (.cells #[.int .i64 n, .slice va l.length vc] 68) = w0 at *
 refine (zaw n w0).mono ?_
 rintro e w' ⟨rfl, rfl⟩
 rw [HSC.out]
 go_wp2
 go_ret
 exact ⟨zf HR.out.symm, HB0.out⟩) : P := h
theorem zrs {P : Prop} (h : P := by
 (try dsimp only); go_split_ands; exact ⟨zm.below (by assumption) hbc6, zpg hbc6, zpg hbc6, zpg hbc6, zpg hbc6, zpg hbc6, zpg hbc6⟩) : P := h
theorem zrt {P : Prop} (h : P := by
 (try dsimp only); go_split_ands; exact ⟨zm.below (by assumption) hbc5, zpg hbc5, zpg hbc5, zpg hbc5, zpg hbc5, zpg hbc5, zpg hbc5⟩) : P := h
theorem zru {P : Prop} (h : P := by
 (try dsimp only); go_split_ands; exact ⟨zm.below (by assumption) hbc3, zpg hbc3, zpg hbc3, zpg hbc3, zpg hbc3, zpg hbc3, zpg hbc3⟩) : P := h
theorem zde (n : Int) (v : Value) (l : List V.Itv) (w : World) (hm : zm w) (hv : Itvs w v l) (hs : Lens l) (hl : l.length ≤ maxLen) :
  Calls Tryz.prog 96 #[setV n v] w fun e w' => e = .returned (.bool (V.okR n l)) /\ Below w.heap.size w w' := by
 have HV := zpa hv
 obtain ⟨va, vc, rfl⟩ := hv.slice
 unfold maxLen at hl
 have HS := zpa hs
 have HF : Hid (V.okR n l = (V.scheme n && (decide (l.length ≤ 32) && (l.all (V.zu n) && V.ordB n l)))) := zpa rfl
 have hb0 : Below w.heap.size w (w.alloc (.cells #[.int .i64 n, .slice va l.length vc] 68)) := (zpd _ w).alloc (zpc _) _
 have HB0 := zpa hb0
 have HM := zpa (hm.below hb0)
 have c0 : (w.alloc (.cells #[.int .i64 n, .slice va l.length vc] 68)).cell? ⟨w.heap.size, 0, none⟩ = some (.int .i64 n) := by simp [zj]
 have c1 : (w.alloc (.cells #[.int .i64 n, .slice va l.length vc] 68)).cell? ⟨w.heap.size, 1, none⟩ = some (.slice va l.length vc) := by simp [zj]
 clear hv hs hb0 hm
 unfold setV
 rcases hsch : V.scheme n with _ | _
 ·have HR : Hid (V.okR n l = false) := zpa (by rw [HF.out, hsch]; rfl)
  have HSC := zpa hsch
  clear hsch
  exact zp9
 ·have HSC := zpa hsch
  clear hsch
  by_cases h32 : 32 < l.length
  ·have HR : Hid (V.okR n l = false) := zpa (by rw [HF.out, decide_eq_false (show ¬ l.length ≤ 32 by omega), Bool.false_and, Bool.and_false])
   exact zp9
  ·have h32' : l.length ≤ 32 := by omega
   have HF2 : Hid (V.okR n l = (l.all (V.zu n) && V.ordB n l)) := zpa (by rw [HF.out, HSC.out, decide_eq_true h32']; rfl)
   have hz0 : w.heap.size < (w.alloc (.cells #[.int .i64 n, .slice va l.length vc] 68)).heap.size := by simp
   go_enter Tryz.func96, Tryz.ntmps96
   go_wp2_with fail
   generalize w.alloc (.cells #[.int .i64 n, .slice va l.length vc] 68) = w0 at *
   refine (zaw n w0).mono ?_
   rintro e w' ⟨rfl, rfl⟩
   rw [HSC.out]
   go_wp2
   go_loopw [3] (fun iv wx => ∃ k : Nat, k ≤ l.length /\ iv = .int .i64 k /\ (l.take k).all (V.zu n) = true /\ Below w0.heap.size w0 wx) (fun iv _ => l.length - (intOf iv).toNat)
   case atStart => exact ⟨0, Nat.zero_le _, rfl, rfl, zpd _ _⟩
   case round =>
    obtain ⟨k, hk, rfl, hz, hbx⟩ := hrel
    have HZ := zpa hz
    have HBX := zpa hbx
    have HBF := zpb HB0 hbx
    have d0 := (hbx.cell (p := ⟨w.heap.size, 0, none⟩) hz0).trans c0
    have d1 := (hbx.cell (p := ⟨w.heap.size, 1, none⟩) hz0).trans c1
    clear hz hbx
    by_cases hlt : k < l.length
    ·obtain ⟨b, off, rfl, hb0, hx⟩ := HV.out.at k hlt
     obtain ⟨h0, h1, h2, h3⟩ := hx.below hb0 HBF.out
     have hi1 : (0 : Int) ≤ (k : Int) := by omega
     have hi2 : (k : Int) < (l.length : Int) := by omega
     have hlens := HS.out _ (List.getElem_mem hlt)
     have HBD : Hid (V.zu n l[k] = (V.jf n l[k].lo l[k].lk && V.jf n l[k].hi l[k].hk)) := zpa rfl
     have HYES := zpa (fun hb => zjx (n := n) HZ.out hlt hb)
     have HNO := zpa (fun hb => bnd_no (n := n) hlt hb)
     clear hx
     generalize l[k] = x at *
     have hbA : Below wr.heap.size wr (wr.alloc (.cells #[.string ⟨x.lo.toArray⟩, .int .i64 x.lk, .string ⟨x.hi.toArray⟩, .int .i64 x.hk] 83)) := (zpd _ wr).alloc (zpc _) _
     have HM1 := zpa ((HM.out.below HBX.out).below hbA)
     have HBA := zpb HBX hbA
     have e0 := ze hbA d0
     have hx4 : ws (wr.alloc (.cells #[.string ⟨x.lo.toArray⟩, .int .i64 x.lk, .string ⟨x.hi.toArray⟩, .int .i64 x.hk] 83)) wr.heap.size 0 x := by
      refine ⟨?_, ?_, ?_, ?_⟩ <;> simp [zj]
     have HX4 := zpa hx4
     clear hbA hx4
     go_wp2_with fail
     generalize wr.alloc (.cells #[.string ⟨x.lo.toArray⟩, .int .i64 x.lk, .string ⟨x.hi.toArray⟩, .int .i64 x.hk] 83) = W1 at *
     obtain ⟨f0, f1, f2, f3⟩ := HX4.out
     rw [Nat.zero_add] at f1 f2 f3
     clear h0 h1 h2 h3 d0 d1
     refine (zdt n x.lo x.lk W1 HM1.out hlens.1).mono ?_
     rintro e W2 ⟨rfl, hb2⟩
     have k0 := ze hb2 e0
     have k2 := ze hb2 f2
     have k3 := ze hb2 f3
     have HB2 := zpb HBA hb2
     have HM2 := zpa (HM1.out.below hb2)
     clear hb2 e0 f0 f1 f2 f3
     rcases hlo : V.jf n x.lo x.lk with _ | _
     ·exact zq2
     ·have HLO := zpa hlo
      clear hlo
      go_wp2_with fail
      refine (zdt n x.hi x.hk W2 HM2.out hlens.2).mono ?_
      exact zpv
    ·obtain rfl : k = l.length := by omega
     have HALL : Hid (∀ x ∈ l, V.zu n x = true) := zpa (by have := HZ.out; rw [List.take_length] at this; exact List.all_eq_true.1 this)
     have HF3 : Hid (V.okR n l = V.ordB n l) := zpa (by rw [HF2.out, List.all_eq_true.2 HALL.out]; rfl)
     have HMW := zpa (HM.out.below HBX.out)
     have hzW : w.heap.size < wr.heap.size := Nat.lt_of_lt_of_le hz0 HBX.out.size
     have HD := zpa (And.intro d0 d1)
     obtain ⟨wo, hwo⟩ : ∃ wo : World, wo = wr := ⟨_, rfl⟩
     subst hwo
     go_wp2
     clear d0 d1
     go_loopw [5] (fun iv wx => ∃ k : Nat, k ≤ l.length /\ iv = .int .i64 k /\ (∀ i, i < k -> V.okAt n l i = true) /\ Below wo.heap.size wo wx) (fun iv _ => l.length - (intOf iv).toNat)
     case atStart => exact ⟨0, Nat.zero_le _, rfl, fun i hi => by omega, zpd _ _⟩
     case round =>
      obtain ⟨k, hk, rfl, hz, hbx⟩ := hrel
      have HZ := zpa hz
      have HBX := zpa hbx
      have HBG := zpb HBF hbx
      have d0 := (hbx.cell (p := ⟨w.heap.size, 0, none⟩) hzW).trans HD.out.1
      have d1 := (hbx.cell (p := ⟨w.heap.size, 1, none⟩) hzW).trans HD.out.2
      clear hz hbx
      by_cases hlt : k < l.length
      ·obtain ⟨b, off, rfl, hb0, hx⟩ := HV.out.at k hlt
       obtain ⟨h0, h1, h2, h3⟩ := hx.below hb0 HBG.out
       have hi1 : (0 : Int) ≤ (k : Int) := by omega
       have hi2 : (k : Int) < (l.length : Int) := by omega
       have HBK : Hid (V.zu n l[k] = true) := zpa (HALL.out _ (List.getElem_mem hlt))
       have HG := zpa (zej hlt)
       clear hx
       generalize l[k] = x at *
       have hbA : Below wr.heap.size wr (wr.alloc (.cells #[.string ⟨x.lo.toArray⟩, .int .i64 x.lk, .string ⟨x.hi.toArray⟩, .int .i64 x.hk] 83)) := (zpd _ wr).alloc (zpc _) _
       have HM1 := zpa ((HMW.out.below HBX.out).below hbA)
       have HBA := zpb HBG hbA
       have HBAW := zpb HBX hbA
       have e0 := ze hbA d0
       have e1 := ze hbA d1
       have hx4 : ws (wr.alloc (.cells #[.string ⟨x.lo.toArray⟩, .int .i64 x.lk, .string ⟨x.hi.toArray⟩, .int .i64 x.hk] 83)) wr.heap.size 0 x := by
        refine ⟨?_, ?_, ?_, ?_⟩ <;> simp [zj]
       have HX4 := zpa hx4
       clear hbA hx4
       go_wp2_with fail
       generalize wr.alloc (.cells #[.string ⟨x.lo.toArray⟩, .int .i64 x.lk, .string ⟨x.hi.toArray⟩, .int .i64 x.hk] 83) = W1 at *
       obtain ⟨f0, f1, f2, f3⟩ := HX4.out
       rw [Nat.zero_add] at f1 f2 f3
       clear h0 h1 h2 h3 d0 d1
       obtain ⟨z, hz⟩ : ∃ z, z = V.ecmp n (V.eLow x) (V.yh x) := ⟨_, rfl⟩
       have HIN : Hid (V.vu n x = decide (z < 0)) := zpa (by rw [hz]; exact (V.zld HBK.out).symm)
       have hc1 := zbk n (V.eLow x) (V.yh x)
       rw [← hz] at hc1
       have HC1 := zpa hc1
       clear hz hc1
       have HOK0 : Hid (V.okAt n l k = (decide (z < 0) && (decide (k = 0) || V.zdh n (l.getD (k - 1) V.noI) x))) := zpa (by unfold V.okAt; rw [HG.out, HIN.out])
       by_cases hz0 : 0 ≤ z
       ·have HNO : Hid (V.ordB n l = false) := zpa (zc7 hlt (by rw [HOK0.out, decide_eq_false (show ¬ z < 0 by omega)]; rfl))
        have hd : decide (0 ≤ z) = true := decide_eq_true hz0
        clear hz0
        refine wp_region_held_drew (S := (fun W' => zm W' /\ W'.cell? ⟨w.heap.size, 0, none⟩ = some (.int .i64 n) /\ W'.cell? ⟨w.heap.size, 1, none⟩ = some (.slice (some ⟨b, off, none⟩) l.length vc) /\ W'.cell? ⟨wr.heap.size, 0, none⟩ = some (.string ⟨x.lo.toArray⟩) /\ W'.cell? ⟨wr.heap.size, 1, none⟩ = some (.int .i64 x.lk) /\ W'.cell? ⟨wr.heap.size, 2, none⟩ = some (.string ⟨x.hi.toArray⟩) /\ W'.cell? ⟨wr.heap.size, 3, none⟩ = some (.int .i64 x.hk))) (by kernel_rfl) (by (try dsimp only); (try simp only [World.cell?_drew]); exact ⟨HM1.out.below (zpd _ _).drew, e0, e1, f0, f1, f2, f3⟩) (fun hHeld => ?_)
        refine tk 0 ?_
        refine tk 1 ?_
        refine tk 2 ?_
        refine tk 4 ?_
        refine rd 3 fun K hK => ?_
        go_simp
        refine (za7 x _).mono ?_
        rintro e wc3 ⟨rfl, hbc3⟩
        try dsimp only
        refine hK.out _ _ ?_ (fun hHeld => ?_)
        ·exact zru
        clear hK K
        try simp only [zo5, zo6, zo7, Act.put, zo8, List.set_cons_succ, List.set_cons_zero]
        refine rd 5 fun K hK => ?_
        go_simp
        refine (wi x _).mono ?_
        rintro e wc5 ⟨rfl, hbc5⟩
        try dsimp only
        refine hK.out _ _ ?_ (fun hHeld => ?_)
        ·exact zrt
        clear hK K
        try simp only [zo5, zo6, zo7, Act.put, zo8, List.set_cons_succ, List.set_cons_zero]
        refine rd 6 fun K hK => ?_
        go_simp
        refine (HC1.out _ (by first | assumption | exact And.left (by assumption)) HSC.out (V.zeg HBK.out) (V.zb3 HBK.out)).mono ?_
        rintro e wc6 ⟨rfl, hbc6⟩
        try dsimp only
        refine hK.out _ _ ?_ (fun hHeld => ?_)
        ·exact zrs
        clear hK K
        try simp only [zo5, zo6, zo7, Act.put, zo8, List.set_cons_succ, List.set_cons_zero]
        refine tk 7 ?_
        refine tk 8 ?_
        refine tu 9 ?_
        refine tu 10 ?_
        refine tu 11 ?_
        refine tu 12 ?_
        refine tu 13 ?_
        refine tu 14 ?_
        refine tu 15 ?_
        refine tu 16 ?_
        refine tu 17 ?_
        refine tu 18 ?_
        refine tu 19 ?_
        refine tu 20 ?_
        refine tu 21 ?_
        refine tu 22 ?_
        refine tu 23 ?_
        refine tu 24 ?_
        refine tu 25 ?_
        refine tk 26 ?_
        refine wpAnyH_done (by kernel_rfl) ?_ _
        have hbz1 : Below W1.heap.size W1 wc6 := ((((zpd W1.heap.size W1).drew).trans (show Below W1.heap.size W1.drew wc3 from hbc3)).trans (hbc5.mono (show W1.heap.size ≤ wc3.heap.size from hbc3.size))).trans (hbc6.mono (Nat.le_trans (show W1.heap.size ≤ wc3.heap.size from hbc3.size) hbc5.size))
        have HBZ := zpb HBA hbz1
        clear hbz1
        clear hbc3 hbc5 hbc6 hHeld
        go_wp2
        go_ret
        exact ⟨zf (by rw [HF3.out, HNO.out]), HBZ.out⟩
       ·have hd : decide (0 ≤ z) = false := decide_eq_false hz0
        have HOK1 : Hid (V.okAt n l k = (decide (k = 0) || V.zdh n (l.getD (k - 1) V.noI) x)) := zpa (by rw [HOK0.out, decide_eq_true (show z < 0 by omega)]; rfl)
        clear hz0
        by_cases hk0 : k = 0
        ·have HOK : Hid (∀ i, i < k + 1 -> V.okAt n l i = true) := zpa (za4 HZ.out (by rw [HOK1.out, decide_eq_true hk0]; rfl))
         have hkd : decide ((0 : Int) < (k : Int)) = false := decide_eq_false (by omega)
         have hkn : decide (0 < k) = false := decide_eq_false (by omega)
         clear hk0
         refine wp_region_held_drew (S := (fun W' => zm W' /\ W'.cell? ⟨w.heap.size, 0, none⟩ = some (.int .i64 n) /\ W'.cell? ⟨w.heap.size, 1, none⟩ = some (.slice (some ⟨b, off, none⟩) l.length vc) /\ W'.cell? ⟨wr.heap.size, 0, none⟩ = some (.string ⟨x.lo.toArray⟩) /\ W'.cell? ⟨wr.heap.size, 1, none⟩ = some (.int .i64 x.lk) /\ W'.cell? ⟨wr.heap.size, 2, none⟩ = some (.string ⟨x.hi.toArray⟩) /\ W'.cell? ⟨wr.heap.size, 3, none⟩ = some (.int .i64 x.hk))) (by kernel_rfl) (by (try dsimp only); (try simp only [World.cell?_drew]); exact ⟨HM1.out.below (zpd _ _).drew, e0, e1, f0, f1, f2, f3⟩) (fun hHeld => ?_)
         refine tk 0 ?_
         refine tk 1 ?_
         refine tk 2 ?_
         refine tk 4 ?_
         refine rd 3 fun K hK => ?_
         go_simp
         refine (za7 x _).mono ?_
         rintro e wc3 ⟨rfl, hbc3⟩
         try dsimp only
         refine hK.out _ _ ?_ (fun hHeld => ?_)
         ·exact zru
         clear hK K
         try simp only [zo5, zo6, zo7, Act.put, zo8, List.set_cons_succ, List.set_cons_zero]
         refine rd 5 fun K hK => ?_
         go_simp
         refine (wi x _).mono ?_
         rintro e wc5 ⟨rfl, hbc5⟩
         try dsimp only
         refine hK.out _ _ ?_ (fun hHeld => ?_)
         ·exact zrt
         clear hK K
         try simp only [zo5, zo6, zo7, Act.put, zo8, List.set_cons_succ, List.set_cons_zero]
         refine rd 6 fun K hK => ?_
         go_simp
         refine (HC1.out _ (by first | assumption | exact And.left (by assumption)) HSC.out (V.zeg HBK.out) (V.zb3 HBK.out)).mono ?_
         rintro e wc6 ⟨rfl, hbc6⟩
         try dsimp only
         refine hK.out _ _ ?_ (fun hHeld => ?_)
         ·exact zrs
         clear hK K
         try simp only [zo5, zo6, zo7, Act.put, zo8, List.set_cons_succ, List.set_cons_zero]
         refine tk 7 ?_
         refine tk 8 ?_
         refine tk 9 ?_
         refine tk 10 ?_
         refine tk 11 ?_
         refine tu 12 ?_
         refine tu 13 ?_
         refine tu 14 ?_
         refine tu 15 ?_
         refine tu 16 ?_
         refine tu 17 ?_
         refine tu 18 ?_
         refine tu 19 ?_
         refine tu 20 ?_
         refine tu 21 ?_
         refine tu 22 ?_
         refine tu 23 ?_
         refine tu 24 ?_
         refine tk 25 ?_
         refine tk 26 ?_
         refine wpAnyH_done (by kernel_rfl) ?_ _
         have hbz1 : Below W1.heap.size W1 wc6 := ((((zpd W1.heap.size W1).drew).trans (show Below W1.heap.size W1.drew wc3 from hbc3)).trans (hbc5.mono (show W1.heap.size ≤ wc3.heap.size from hbc3.size))).trans (hbc6.mono (Nat.le_trans (show W1.heap.size ≤ wc3.heap.size from hbc3.size) hbc5.size))
         have HBZ := zpb HBAW hbz1
         clear hbz1
         clear hbc3 hbc5 hbc6 hHeld
         exact zqx
        ·have hkd : decide ((0 : Int) < (k : Int)) = true := decide_eq_true (by omega)
         have hkp : 0 < k := by omega
         have hkn : decide (0 < k) = true := decide_eq_true (by omega)
         have hi3 : (1 : Int) ≤ (k : Int) := by omega
         have hi4 : (k : Int) - 1 < (l.length : Int) := by omega
         have hi5 : (0 : Int) ≤ (k : Int) - 1 := by omega
         have hi6 : IntKind.i64.wrap ((k : Int) - 1) = (k : Int) - 1 := by rw [IntKind.wrap_i64]; omega
         have hi7 : ((k : Int) - 1).toNat = k - 1 := by omega
         have hk1 : k - 1 < l.length := by omega
         obtain ⟨b', off', eb, hb1, hy⟩ := HV.out.at (k - 1) hk1
         cases eb
         obtain ⟨y0, y1, y2, y3⟩ := hy.below hb1 HBA.out
         have HBY : Hid (V.zu n l[k - 1] = true) := zpa (HALL.out _ (List.getElem_mem hk1))
         have HGY := zpa (zej hk1)
         generalize l[k - 1] = y at *
         obtain ⟨z2, hz2⟩ : ∃ z, z = V.ecmp n (V.yh y) (V.eLow x) := ⟨_, rfl⟩
         have HOK2 : Hid (V.okAt n l k = decide (z2 < 0)) := zpa (by rw [HOK1.out, decide_eq_false hk0, HGY.out, hz2]; exact (V.zn8 HBY.out HBK.out).symm)
         have hc2 := zbk n (V.yh y) (V.eLow x)
         rw [← hz2] at hc2
         have HC2 := zpa hc2
         clear hz2 hc2 hy hk0 hb1
         refine wp_region_held_drew (S := (fun W' => zm W' /\ W'.cell? ⟨w.heap.size, 0, none⟩ = some (.int .i64 n) /\ W'.cell? ⟨w.heap.size, 1, none⟩ = some (.slice (some ⟨b, off, none⟩) l.length vc) /\ W'.cell? ⟨wr.heap.size, 0, none⟩ = some (.string ⟨x.lo.toArray⟩) /\ W'.cell? ⟨wr.heap.size, 1, none⟩ = some (.int .i64 x.lk) /\ W'.cell? ⟨wr.heap.size, 2, none⟩ = some (.string ⟨x.hi.toArray⟩) /\ W'.cell? ⟨wr.heap.size, 3, none⟩ = some (.int .i64 x.hk) /\ W'.cell? ⟨b, off + (k - 1) * 4, none⟩ = some (.string ⟨y.lo.toArray⟩) /\ W'.cell? ⟨b, off + (k - 1) * 4 + 1, none⟩ = some (.int .i64 y.lk) /\ W'.cell? ⟨b, off + (k - 1) * 4 + 2, none⟩ = some (.string ⟨y.hi.toArray⟩) /\ W'.cell? ⟨b, off + (k - 1) * 4 + 3, none⟩ = some (.int .i64 y.hk))) (by kernel_rfl) (by (try dsimp only); (try simp only [World.cell?_drew]); exact ⟨HM1.out.below (zpd _ _).drew, e0, e1, f0, f1, f2, f3, y0, y1, y2, y3⟩) (fun hHeld => ?_)
         refine tk 0 ?_
         refine tk 1 ?_
         refine tk 2 ?_
         refine tk 4 ?_
         refine rd 3 fun K hK => ?_
         go_simp
         refine (za7 x _).mono ?_
         rintro e wc3 ⟨rfl, hbc3⟩
         try dsimp only
         refine hK.out _ _ ?_ (fun hHeld => ?_)
         ·(try dsimp only); go_split_ands; exact ⟨zm.below (by assumption) hbc3, zpg hbc3, zpg hbc3, zpg hbc3, zpg hbc3, zpg hbc3, zpg hbc3, zpg hbc3, zpg hbc3, zpg hbc3, zpg hbc3⟩
         clear hK K
         try simp only [zo5, zo6, zo7, Act.put, zo8, List.set_cons_succ, List.set_cons_zero]
         refine rd 5 fun K hK => ?_
         go_simp
         refine (wi x _).mono ?_
         rintro e wc5 ⟨rfl, hbc5⟩
         try dsimp only
         refine hK.out _ _ ?_ (fun hHeld => ?_)
         ·(try dsimp only); go_split_ands; exact ⟨zm.below (by assumption) hbc5, zpg hbc5, zpg hbc5, zpg hbc5, zpg hbc5, zpg hbc5, zpg hbc5, zpg hbc5, zpg hbc5, zpg hbc5, zpg hbc5⟩
         clear hK K
         try simp only [zo5, zo6, zo7, Act.put, zo8, List.set_cons_succ, List.set_cons_zero]
         refine rd 6 fun K hK => ?_
         go_simp
         refine (HC1.out _ (by first | assumption | exact And.left (by assumption)) HSC.out (V.zeg HBK.out) (V.zb3 HBK.out)).mono ?_
         rintro e wc6 ⟨rfl, hbc6⟩
         try dsimp only
         refine hK.out _ _ ?_ (fun hHeld => ?_)
         ·(try dsimp only); go_split_ands; exact ⟨zm.below (by assumption) hbc6, zpg hbc6, zpg hbc6, zpg hbc6, zpg hbc6, zpg hbc6, zpg hbc6, zpg hbc6, zpg hbc6, zpg hbc6, zpg hbc6⟩
         clear hK K
         try simp only [zo5, zo6, zo7, Act.put, zo8, List.set_cons_succ, List.set_cons_zero]
         refine tk 7 ?_
         refine tk 8 ?_
         refine tk 9 ?_
         refine tk 10 ?_
         refine tk 11 ?_
         refine tk 12 ?_
         refine tk 13 ?_
         refine tk 14 ?_
         refine tk 15 ?_
         refine tk 16 ?_
         refine tk 17 ?_
         refine tk 18 ?_
         refine tk 19 ?_
         refine tk 21 ?_
         refine rd 20 fun K hK => ?_
         go_simp
         refine (wi y _).mono ?_
         rintro e wc20 ⟨rfl, hbc20⟩
         try dsimp only
         refine hK.out _ _ ?_ (fun hHeld => ?_)
         ·(try dsimp only); go_split_ands; exact ⟨zm.below (by assumption) hbc20, zpg hbc20, zpg hbc20, zpg hbc20, zpg hbc20, zpg hbc20, zpg hbc20, zpg hbc20, zpg hbc20, zpg hbc20, zpg hbc20⟩
         clear hK K
         try simp only [zo5, zo6, zo7, Act.put, zo8, List.set_cons_succ, List.set_cons_zero]
         refine rd 22 fun K hK => ?_
         go_simp
         refine (za7 x _).mono ?_
         rintro e wc22 ⟨rfl, hbc22⟩
         try dsimp only
         refine hK.out _ _ ?_ (fun hHeld => ?_)
         ·(try dsimp only); go_split_ands; exact ⟨zm.below (by assumption) hbc22, zpg hbc22, zpg hbc22, zpg hbc22, zpg hbc22, zpg hbc22, zpg hbc22, zpg hbc22, zpg hbc22, zpg hbc22, zpg hbc22⟩
         clear hK K
         try simp only [zo5, zo6, zo7, Act.put, zo8, List.set_cons_succ, List.set_cons_zero]
         refine rd 23 fun K hK => ?_
         go_simp
         refine (HC2.out _ (by first | assumption | exact And.left (by assumption)) HSC.out (V.zb3 HBY.out) (V.zeg HBK.out)).mono ?_
         rintro e wc23 ⟨rfl, hbc23⟩
         try dsimp only
         refine hK.out _ _ ?_ (fun hHeld => ?_)
         ·(try dsimp only); go_split_ands; exact ⟨zm.below (by assumption) hbc23, zpg hbc23, zpg hbc23, zpg hbc23, zpg hbc23, zpg hbc23, zpg hbc23, zpg hbc23, zpg hbc23, zpg hbc23, zpg hbc23⟩
         clear hK K
         try simp only [zo5, zo6, zo7, Act.put, zo8, List.set_cons_succ, List.set_cons_zero]
         refine tk 24 ?_
         refine tk 25 ?_
         refine tk 26 ?_
         refine wpAnyH_done (by kernel_rfl) ?_ _
         have hbz1 : Below W1.heap.size W1 wc6 := ((((zpd W1.heap.size W1).drew).trans (show Below W1.heap.size W1.drew wc3 from hbc3)).trans (hbc5.mono (show W1.heap.size ≤ wc3.heap.size from hbc3.size))).trans (hbc6.mono (Nat.le_trans (show W1.heap.size ≤ wc3.heap.size from hbc3.size) hbc5.size))
         have hbz2 : Below wc6.heap.size wc6 wc23 := (hbc20.trans (hbc22.mono hbc20.size)).trans (hbc23.mono (Nat.le_trans hbc20.size hbc22.size))
         have HBZ := zpa (HBAW.out.trans ((hbz1.trans (hbz2.mono hbz1.size)).mono HBAW.out.size))
         have HBZ0 := zpa (HBA.out.trans ((hbz1.trans (hbz2.mono hbz1.size)).mono HBA.out.size))
         clear hbc3 hbc5 hbc6 hbc20 hbc22 hbc23 hHeld hbz1 hbz2
         by_cases hz2 : 0 ≤ z2
         ·have HNO : Hid (V.ordB n l = false) := zpa (zc7 hlt (by rw [HOK2.out]; exact decide_eq_false (by omega)))
          go_wp2
          go_ret
          exact ⟨zf (by rw [HF3.out, HNO.out]), HBZ0.out⟩
         ·have HOK : Hid (∀ i, i < k + 1 -> V.okAt n l i = true) := zpa (za4 HZ.out (by rw [HOK2.out]; exact decide_eq_true (by omega)))
          exact zqx
      ·obtain rfl : k = l.length := by omega
       have HR : Hid (V.okR n l = true) := zpa (by rw [HF3.out]; exact (V.zb4 n l).2 HZ.out)
       go_wp2
       go_ret
       exact ⟨zf HR.out.symm, HBG.out⟩
end Go.Proofs.YtbikeahmldobkaaGreatDoor

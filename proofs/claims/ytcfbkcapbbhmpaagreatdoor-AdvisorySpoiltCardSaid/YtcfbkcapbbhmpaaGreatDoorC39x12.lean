import Derived.Test.YtcfbkcapbbhmpaaGreatDoorC39x11
import Derived.Test.YtcfbkcapbbhmpaaGreatDoorC39x10
import Derived.Test.YtcfbkcapbbhmpaaGreatDoorC39x02
set_option linter.all false
set_option maxRecDepth 100000
set_option maxHeartbeats 3200000
namespace Go.Proofs.YtcfbkcapbbhmpaaGreatDoor
open Go.RowKit
theorem zys {P : Prop} (h : P := by
 go_enter Tryz.func43, Tryz.ntmps43
 go_wp2_with fail
 generalize w.alloc (.cells #[.int .i64 n, .slice va l.length vc] 45) = w0 at *
 refine (zcg n w0).mono ?_
 rintro e w' ⟨rfl, rfl⟩
 rw [HSC.out]
 go_wp2
 go_ret
 exact ⟨zc HR.out.symm, HB0.out⟩) : P := h
theorem zz2 {P : Prop} (h : P := by
 (try dsimp only); go_split_ands; exact ⟨zg.below (by assumption) hbc23, zwk hbc23, zwk hbc23, zwk hbc23, zwk hbc23, zwk hbc23, zwk hbc23, zwk hbc23, zwk hbc23, zwk hbc23, zwk hbc23⟩) : P := h
theorem zz3 {P : Prop} (h : P := by
 (try dsimp only); go_split_ands; exact ⟨zg.below (by assumption) hbc22, zwk hbc22, zwk hbc22, zwk hbc22, zwk hbc22, zwk hbc22, zwk hbc22, zwk hbc22, zwk hbc22, zwk hbc22, zwk hbc22⟩) : P := h
theorem z07 {P : Prop} (h : P := by
 (try dsimp only); go_split_ands; exact ⟨zg.below (by assumption) hbc6, zwk hbc6, zwk hbc6, zwk hbc6, zwk hbc6, zwk hbc6, zwk hbc6⟩) : P := h
theorem z08 {P : Prop} (h : P := by
 (try dsimp only); go_split_ands; exact ⟨zg.below (by assumption) hbc5, zwk hbc5, zwk hbc5, zwk hbc5, zwk hbc5, zwk hbc5, zwk hbc5⟩) : P := h
theorem z09 {P : Prop} (h : P := by
 (try dsimp only); go_split_ands; exact ⟨zg.below (by assumption) hbc3, zwk hbc3, zwk hbc3, zwk hbc3, zwk hbc3, zwk hbc3, zwk hbc3⟩) : P := h
theorem zb9 (n : Int) (v : Value) (l : List V.Itv) (w : World) (hm : zg w) (hv : Itvs w v l) (hs : Lens l) (hl : l.length ≤ maxLen) :
  Calls Tryz.prog 43 #[setV n v] w fun e w' => e = .returned (.bool (V.okR n l)) /\ Below w.heap.size w w' := by
 have HV := zwe hv
 obtain ⟨va, vc, rfl⟩ := hv.slice
 unfold maxLen at hl
 have HS := zwe hs
 have HF : Hid (V.okR n l = (V.scheme n && (decide (l.length ≤ 32) && (l.all (V.zj n) && V.ordB n l)))) := zwe rfl
 have hb0 : Below w.heap.size w (w.alloc (.cells #[.int .i64 n, .slice va l.length vc] 45)) := (zwh _ w).alloc (zwg _) _
 have HB0 := zwe hb0
 have HM := zwe (hm.below hb0)
 have c0 : (w.alloc (.cells #[.int .i64 n, .slice va l.length vc] 45)).cell? ⟨w.heap.size, 0, none⟩ = some (.int .i64 n) := by simp [ze]
 have c1 : (w.alloc (.cells #[.int .i64 n, .slice va l.length vc] 45)).cell? ⟨w.heap.size, 1, none⟩ = some (.slice va l.length vc) := by simp [ze]
 clear hv hs hb0 hm
 unfold setV
 rcases hsch : V.scheme n with _ | _
 ·have HR : Hid (V.okR n l = false) := zwe (by rw [HF.out, hsch]; rfl)
  have HSC := zwe hsch
  clear hsch
  exact zys
 ·have HSC := zwe hsch
  clear hsch
  by_cases h32 : 32 < l.length
  ·have HR : Hid (V.okR n l = false) := zwe (by rw [HF.out, decide_eq_false (show ¬ l.length ≤ 32 by omega), Bool.false_and, Bool.and_false])
   exact zys
  ·have h32' : l.length ≤ 32 := by omega
   have HF2 : Hid (V.okR n l = (l.all (V.zj n) && V.ordB n l)) := zwe (by rw [HF.out, HSC.out, decide_eq_true h32']; rfl)
   have hz0 : w.heap.size < (w.alloc (.cells #[.int .i64 n, .slice va l.length vc] 45)).heap.size := by simp
   go_enter Tryz.func43, Tryz.ntmps43
   go_wp2_with fail
   generalize w.alloc (.cells #[.int .i64 n, .slice va l.length vc] 45) = w0 at *
   refine (zcg n w0).mono ?_
   rintro e w' ⟨rfl, rfl⟩
   rw [HSC.out]
   go_wp2
   go_loopw [3] (fun iv wx => ∃ k : Nat, k ≤ l.length /\ iv = .int .i64 k /\ (l.take k).all (V.zj n) = true /\ Below w0.heap.size w0 wx) (fun iv _ => l.length - (intOf iv).toNat)
   case atStart => exact ⟨0, Nat.zero_le _, rfl, rfl, zwh _ _⟩
   case round =>
    obtain ⟨k, hk, rfl, hz, hbx⟩ := hrel
    have HZ := zwe hz
    have HBX := zwe hbx
    have HBF := zwf HB0 hbx
    have d0 := (hbx.cell (p := ⟨w.heap.size, 0, none⟩) hz0).trans c0
    have d1 := (hbx.cell (p := ⟨w.heap.size, 1, none⟩) hz0).trans c1
    clear hz hbx
    by_cases hlt : k < l.length
    ·obtain ⟨b, off, rfl, hb0, hx⟩ := HV.out.at k hlt
     obtain ⟨h0, h1, h2, h3⟩ := hx.below hb0 HBF.out
     have hi1 : (0 : Int) ≤ (k : Int) := by omega
     have hi2 : (k : Int) < (l.length : Int) := by omega
     have hlens := HS.out _ (List.getElem_mem hlt)
     have HBD : Hid (V.zj n l[k] = (V.jz n l[k].lo l[k].lk && V.jz n l[k].hi l[k].hk)) := zwe rfl
     have HYES := zwe (fun hb => zqq (n := n) HZ.out hlt hb)
     have HNO := zwe (fun hb => bnd_no (n := n) hlt hb)
     clear hx
     generalize l[k] = x at *
     have hbA : Below wr.heap.size wr (wr.alloc (.cells #[.string ⟨x.lo.toArray⟩, .int .i64 x.lk, .string ⟨x.hi.toArray⟩, .int .i64 x.hk] 82)) := (zwh _ wr).alloc (zwg _) _
     have HM1 := zwe ((HM.out.below HBX.out).below hbA)
     have HBA := zwf HBX hbA
     have e0 := za hbA d0
     have hx4 : zca (wr.alloc (.cells #[.string ⟨x.lo.toArray⟩, .int .i64 x.lk, .string ⟨x.hi.toArray⟩, .int .i64 x.hk] 82)) wr.heap.size 0 x := by
      exact z11
     have HX4 := zwe hx4
     clear hbA hx4
     go_wp2_with fail
     generalize wr.alloc (.cells #[.string ⟨x.lo.toArray⟩, .int .i64 x.lk, .string ⟨x.hi.toArray⟩, .int .i64 x.hk] 82) = W1 at *
     obtain ⟨f0, f1, f2, f3⟩ := HX4.out
     rw [Nat.zero_add] at f1 f2 f3
     clear h0 h1 h2 h3 d0 d1
     refine (zi2 n x.lo x.lk W1 HM1.out hlens.1).mono ?_
     rintro e W2 ⟨rfl, hb2⟩
     have k0 := za hb2 e0
     have k2 := za hb2 f2
     have k3 := za hb2 f3
     have HB2 := zwf HBA hb2
     have HM2 := zwe (HM1.out.below hb2)
     clear hb2 e0 f0 f1 f2 f3
     rcases hlo : V.jz n x.lo x.lk with _ | _
     ·exact zz0
     ·have HLO := zwe hlo
      clear hlo
      go_wp2_with fail
      refine (zi2 n x.hi x.hk W2 HM2.out hlens.2).mono ?_
      exact zx2
    ·obtain rfl : k = l.length := by omega
     have HALL : Hid (∀ x ∈ l, V.zj n x = true) := zwe (by have := HZ.out; rw [List.take_length] at this; exact List.all_eq_true.1 this)
     have HF3 : Hid (V.okR n l = V.ordB n l) := zwe (by rw [HF2.out, List.all_eq_true.2 HALL.out]; rfl)
     have HMW := zwe (HM.out.below HBX.out)
     have hzW : w.heap.size < wr.heap.size := Nat.lt_of_lt_of_le hz0 HBX.out.size
     have HD := zwe (And.intro d0 d1)
     obtain ⟨wo, hwo⟩ : ∃ wo : World, wo = wr := ⟨_, rfl⟩
     subst hwo
     go_wp2
     clear d0 d1
     go_loopw [5] (fun iv wx => ∃ k : Nat, k ≤ l.length /\ iv = .int .i64 k /\ (∀ i, i < k -> V.okAt n l i = true) /\ Below wo.heap.size wo wx) (fun iv _ => l.length - (intOf iv).toNat)
     case atStart => exact ⟨0, Nat.zero_le _, rfl, fun i hi => by omega, zwh _ _⟩
     case round =>
      obtain ⟨k, hk, rfl, hz, hbx⟩ := hrel
      have HZ := zwe hz
      have HBX := zwe hbx
      have HBG := zwf HBF hbx
      have d0 := (hbx.cell (p := ⟨w.heap.size, 0, none⟩) hzW).trans HD.out.1
      have d1 := (hbx.cell (p := ⟨w.heap.size, 1, none⟩) hzW).trans HD.out.2
      clear hz hbx
      by_cases hlt : k < l.length
      ·obtain ⟨b, off, rfl, hb0, hx⟩ := HV.out.at k hlt
       obtain ⟨h0, h1, h2, h3⟩ := hx.below hb0 HBG.out
       have hi1 : (0 : Int) ≤ (k : Int) := by omega
       have hi2 : (k : Int) < (l.length : Int) := by omega
       have HBK : Hid (V.zj n l[k] = true) := zwe (HALL.out _ (List.getElem_mem hlt))
       have HG := zwe (zjv hlt)
       clear hx
       generalize l[k] = x at *
       have hbA : Below wr.heap.size wr (wr.alloc (.cells #[.string ⟨x.lo.toArray⟩, .int .i64 x.lk, .string ⟨x.hi.toArray⟩, .int .i64 x.hk] 82)) := (zwh _ wr).alloc (zwg _) _
       have HM1 := zwe ((HMW.out.below HBX.out).below hbA)
       have HBA := zwf HBG hbA
       have HBAW := zwf HBX hbA
       have e0 := za hbA d0
       have e1 := za hbA d1
       have hx4 : zca (wr.alloc (.cells #[.string ⟨x.lo.toArray⟩, .int .i64 x.lk, .string ⟨x.hi.toArray⟩, .int .i64 x.hk] 82)) wr.heap.size 0 x := by
        exact z11
       have HX4 := zwe hx4
       clear hbA hx4
       go_wp2_with fail
       generalize wr.alloc (.cells #[.string ⟨x.lo.toArray⟩, .int .i64 x.lk, .string ⟨x.hi.toArray⟩, .int .i64 x.hk] 82) = W1 at *
       obtain ⟨f0, f1, f2, f3⟩ := HX4.out
       rw [Nat.zero_add] at f1 f2 f3
       clear h0 h1 h2 h3 d0 d1
       obtain ⟨z, hz⟩ : ∃ z, z = V.ecmp n (V.eLow x) (V.ky x) := ⟨_, rfl⟩
       have HIN : Hid (V.uf n x = decide (z < 0)) := zwe (by rw [hz]; exact (V.zse HBK.out).symm)
       have hc1 := um n (V.eLow x) (V.ky x)
       rw [← hz] at hc1
       have HC1 := zwe hc1
       clear hz hc1
       have HOK0 : Hid (V.okAt n l k = (decide (z < 0) && (decide (k = 0) || V.vy n (l.getD (k - 1) V.noI) x))) := zwe (by unfold V.okAt; rw [HG.out, HIN.out])
       by_cases hz0 : 0 ≤ z
       ·have HNO : Hid (V.ordB n l = false) := zwe (zhr hlt (by rw [HOK0.out, decide_eq_false (show ¬ z < 0 by omega)]; rfl))
        have hd : decide (0 ≤ z) = true := decide_eq_true hz0
        clear hz0
        refine wp_region_held_drew (S := (fun W' => zg W' /\ W'.cell? ⟨w.heap.size, 0, none⟩ = some (.int .i64 n) /\ W'.cell? ⟨w.heap.size, 1, none⟩ = some (.slice (some ⟨b, off, none⟩) l.length vc) /\ W'.cell? ⟨wr.heap.size, 0, none⟩ = some (.string ⟨x.lo.toArray⟩) /\ W'.cell? ⟨wr.heap.size, 1, none⟩ = some (.int .i64 x.lk) /\ W'.cell? ⟨wr.heap.size, 2, none⟩ = some (.string ⟨x.hi.toArray⟩) /\ W'.cell? ⟨wr.heap.size, 3, none⟩ = some (.int .i64 x.hk))) (by kernel_rfl) (by (try dsimp only); (try simp only [World.cell?_drew]); exact ⟨HM1.out.below (zwh _ _).drew, e0, e1, f0, f1, f2, f3⟩) (fun hHeld => ?_)
        refine tk 0 ?_
        refine tk 1 ?_
        refine tk 2 ?_
        refine tk 4 ?_
        refine rd 3 fun K hK => ?_
        go_simp
        refine (zad x _).mono ?_
        rintro e wc3 ⟨rfl, hbc3⟩
        try dsimp only
        refine hK.out _ _ ?_ (fun hHeld => ?_)
        ·exact z09
        clear hK K
        try simp only [zv9, zwa, zwb, Act.put, zwc, List.set_cons_succ, List.set_cons_zero]
        refine rd 5 fun K hK => ?_
        go_simp
        refine (zal x _).mono ?_
        rintro e wc5 ⟨rfl, hbc5⟩
        try dsimp only
        refine hK.out _ _ ?_ (fun hHeld => ?_)
        ·exact z08
        clear hK K
        try simp only [zv9, zwa, zwb, Act.put, zwc, List.set_cons_succ, List.set_cons_zero]
        refine rd 6 fun K hK => ?_
        go_simp
        refine (HC1.out _ (by first | assumption | exact And.left (by assumption)) HSC.out (V.zbc HBK.out) (V.zbr HBK.out)).mono ?_
        rintro e wc6 ⟨rfl, hbc6⟩
        try dsimp only
        refine hK.out _ _ ?_ (fun hHeld => ?_)
        ·exact z07
        clear hK K
        try simp only [zv9, zwa, zwb, Act.put, zwc, List.set_cons_succ, List.set_cons_zero]
        refine tk 7 ?_
        refine tk 8 ?_
        refine tu 9 ?_
        refine tu 10 ?_
        refine tu 11 ?_
        refine tu 12 ?_
        refine tu 13 ?_
        refine tu 14 ?_
        refine tu 15 ?_
        refine tu 16 ?_
        refine tu 17 ?_
        refine tu 18 ?_
        refine tu 19 ?_
        refine tu 20 ?_
        refine tu 21 ?_
        refine tu 22 ?_
        refine tu 23 ?_
        refine tu 24 ?_
        refine tu 25 ?_
        refine tk 26 ?_
        refine wpAnyH_done (by kernel_rfl) ?_ _
        have hbz1 : Below W1.heap.size W1 wc6 := ((((zwh W1.heap.size W1).drew).trans (show Below W1.heap.size W1.drew wc3 from hbc3)).trans (hbc5.mono (show W1.heap.size ≤ wc3.heap.size from hbc3.size))).trans (hbc6.mono (Nat.le_trans (show W1.heap.size ≤ wc3.heap.size from hbc3.size) hbc5.size))
        have HBZ := zwf HBA hbz1
        clear hbz1
        clear hbc3 hbc5 hbc6 hHeld
        go_wp2
        go_ret
        exact ⟨zc (by rw [HF3.out, HNO.out]), HBZ.out⟩
       ·have hd : decide (0 ≤ z) = false := decide_eq_false hz0
        have HOK1 : Hid (V.okAt n l k = (decide (k = 0) || V.vy n (l.getD (k - 1) V.noI) x)) := zwe (by rw [HOK0.out, decide_eq_true (show z < 0 by omega)]; rfl)
        clear hz0
        by_cases hk0 : k = 0
        ·have HOK : Hid (∀ i, i < k + 1 -> V.okAt n l i = true) := zwe (zez HZ.out (by rw [HOK1.out, decide_eq_true hk0]; rfl))
         have hkd : decide ((0 : Int) < (k : Int)) = false := decide_eq_false (by omega)
         have hkn : decide (0 < k) = false := decide_eq_false (by omega)
         clear hk0
         refine wp_region_held_drew (S := (fun W' => zg W' /\ W'.cell? ⟨w.heap.size, 0, none⟩ = some (.int .i64 n) /\ W'.cell? ⟨w.heap.size, 1, none⟩ = some (.slice (some ⟨b, off, none⟩) l.length vc) /\ W'.cell? ⟨wr.heap.size, 0, none⟩ = some (.string ⟨x.lo.toArray⟩) /\ W'.cell? ⟨wr.heap.size, 1, none⟩ = some (.int .i64 x.lk) /\ W'.cell? ⟨wr.heap.size, 2, none⟩ = some (.string ⟨x.hi.toArray⟩) /\ W'.cell? ⟨wr.heap.size, 3, none⟩ = some (.int .i64 x.hk))) (by kernel_rfl) (by (try dsimp only); (try simp only [World.cell?_drew]); exact ⟨HM1.out.below (zwh _ _).drew, e0, e1, f0, f1, f2, f3⟩) (fun hHeld => ?_)
         refine tk 0 ?_
         refine tk 1 ?_
         refine tk 2 ?_
         refine tk 4 ?_
         refine rd 3 fun K hK => ?_
         go_simp
         refine (zad x _).mono ?_
         rintro e wc3 ⟨rfl, hbc3⟩
         try dsimp only
         refine hK.out _ _ ?_ (fun hHeld => ?_)
         ·exact z09
         clear hK K
         try simp only [zv9, zwa, zwb, Act.put, zwc, List.set_cons_succ, List.set_cons_zero]
         refine rd 5 fun K hK => ?_
         go_simp
         refine (zal x _).mono ?_
         rintro e wc5 ⟨rfl, hbc5⟩
         try dsimp only
         refine hK.out _ _ ?_ (fun hHeld => ?_)
         ·exact z08
         clear hK K
         try simp only [zv9, zwa, zwb, Act.put, zwc, List.set_cons_succ, List.set_cons_zero]
         refine rd 6 fun K hK => ?_
         go_simp
         refine (HC1.out _ (by first | assumption | exact And.left (by assumption)) HSC.out (V.zbc HBK.out) (V.zbr HBK.out)).mono ?_
         rintro e wc6 ⟨rfl, hbc6⟩
         try dsimp only
         refine hK.out _ _ ?_ (fun hHeld => ?_)
         ·exact z07
         clear hK K
         try simp only [zv9, zwa, zwb, Act.put, zwc, List.set_cons_succ, List.set_cons_zero]
         refine tk 7 ?_
         refine tk 8 ?_
         refine tk 9 ?_
         refine tk 10 ?_
         refine tk 11 ?_
         refine tu 12 ?_
         refine tu 13 ?_
         refine tu 14 ?_
         refine tu 15 ?_
         refine tu 16 ?_
         refine tu 17 ?_
         refine tu 18 ?_
         refine tu 19 ?_
         refine tu 20 ?_
         refine tu 21 ?_
         refine tu 22 ?_
         refine tu 23 ?_
         refine tu 24 ?_
         refine tk 25 ?_
         refine tk 26 ?_
         refine wpAnyH_done (by kernel_rfl) ?_ _
         have hbz1 : Below W1.heap.size W1 wc6 := ((((zwh W1.heap.size W1).drew).trans (show Below W1.heap.size W1.drew wc3 from hbc3)).trans (hbc5.mono (show W1.heap.size ≤ wc3.heap.size from hbc3.size))).trans (hbc6.mono (Nat.le_trans (show W1.heap.size ≤ wc3.heap.size from hbc3.size) hbc5.size))
         have HBZ := zwf HBAW hbz1
         clear hbz1
         clear hbc3 hbc5 hbc6 hHeld
         exact zzt
        ·have hkd : decide ((0 : Int) < (k : Int)) = true := decide_eq_true (by omega)
         have hkp : 0 < k := by omega
         have hkn : decide (0 < k) = true := decide_eq_true (by omega)
         have hi3 : (1 : Int) ≤ (k : Int) := by omega
         have hi4 : (k : Int) - 1 < (l.length : Int) := by omega
         have hi5 : (0 : Int) ≤ (k : Int) - 1 := by omega
         have hi6 : IntKind.i64.wrap ((k : Int) - 1) = (k : Int) - 1 := by rw [IntKind.wrap_i64]; omega
         have hi7 : ((k : Int) - 1).toNat = k - 1 := by omega
         have hk1 : k - 1 < l.length := by omega
         obtain ⟨b', off', eb, hb1, hy⟩ := HV.out.at (k - 1) hk1
         cases eb
         obtain ⟨y0, y1, y2, y3⟩ := hy.below hb1 HBA.out
         have HBY : Hid (V.zj n l[k - 1] = true) := zwe (HALL.out _ (List.getElem_mem hk1))
         have HGY := zwe (zjv hk1)
         generalize l[k - 1] = y at *
         obtain ⟨z2, hz2⟩ : ∃ z, z = V.ecmp n (V.ky y) (V.eLow x) := ⟨_, rfl⟩
         have HOK2 : Hid (V.okAt n l k = decide (z2 < 0)) := zwe (by rw [HOK1.out, decide_eq_false hk0, HGY.out, hz2]; exact (V.zvi HBY.out HBK.out).symm)
         have hc2 := um n (V.ky y) (V.eLow x)
         rw [← hz2] at hc2
         have HC2 := zwe hc2
         clear hz2 hc2 hy hk0 hb1
         refine wp_region_held_drew (S := (fun W' => zg W' /\ W'.cell? ⟨w.heap.size, 0, none⟩ = some (.int .i64 n) /\ W'.cell? ⟨w.heap.size, 1, none⟩ = some (.slice (some ⟨b, off, none⟩) l.length vc) /\ W'.cell? ⟨wr.heap.size, 0, none⟩ = some (.string ⟨x.lo.toArray⟩) /\ W'.cell? ⟨wr.heap.size, 1, none⟩ = some (.int .i64 x.lk) /\ W'.cell? ⟨wr.heap.size, 2, none⟩ = some (.string ⟨x.hi.toArray⟩) /\ W'.cell? ⟨wr.heap.size, 3, none⟩ = some (.int .i64 x.hk) /\ W'.cell? ⟨b, off + (k - 1) * 4, none⟩ = some (.string ⟨y.lo.toArray⟩) /\ W'.cell? ⟨b, off + (k - 1) * 4 + 1, none⟩ = some (.int .i64 y.lk) /\ W'.cell? ⟨b, off + (k - 1) * 4 + 2, none⟩ = some (.string ⟨y.hi.toArray⟩) /\ W'.cell? ⟨b, off + (k - 1) * 4 + 3, none⟩ = some (.int .i64 y.hk))) (by kernel_rfl) (by (try dsimp only); (try simp only [World.cell?_drew]); exact ⟨HM1.out.below (zwh _ _).drew, e0, e1, f0, f1, f2, f3, y0, y1, y2, y3⟩) (fun hHeld => ?_)
         refine tk 0 ?_
         refine tk 1 ?_
         refine tk 2 ?_
         refine tk 4 ?_
         refine rd 3 fun K hK => ?_
         go_simp
         refine (zad x _).mono ?_
         rintro e wc3 ⟨rfl, hbc3⟩
         try dsimp only
         refine hK.out _ _ ?_ (fun hHeld => ?_)
         ·(try dsimp only); go_split_ands; exact ⟨zg.below (by assumption) hbc3, zwk hbc3, zwk hbc3, zwk hbc3, zwk hbc3, zwk hbc3, zwk hbc3, zwk hbc3, zwk hbc3, zwk hbc3, zwk hbc3⟩
         clear hK K
         try simp only [zv9, zwa, zwb, Act.put, zwc, List.set_cons_succ, List.set_cons_zero]
         refine rd 5 fun K hK => ?_
         go_simp
         refine (zal x _).mono ?_
         rintro e wc5 ⟨rfl, hbc5⟩
         try dsimp only
         refine hK.out _ _ ?_ (fun hHeld => ?_)
         ·(try dsimp only); go_split_ands; exact ⟨zg.below (by assumption) hbc5, zwk hbc5, zwk hbc5, zwk hbc5, zwk hbc5, zwk hbc5, zwk hbc5, zwk hbc5, zwk hbc5, zwk hbc5, zwk hbc5⟩
         clear hK K
         try simp only [zv9, zwa, zwb, Act.put, zwc, List.set_cons_succ, List.set_cons_zero]
         refine rd 6 fun K hK => ?_
         go_simp
         refine (HC1.out _ (by first | assumption | exact And.left (by assumption)) HSC.out (V.zbc HBK.out) (V.zbr HBK.out)).mono ?_
         rintro e wc6 ⟨rfl, hbc6⟩
         try dsimp only
         refine hK.out _ _ ?_ (fun hHeld => ?_)
         ·(try dsimp only); go_split_ands; exact ⟨zg.below (by assumption) hbc6, zwk hbc6, zwk hbc6, zwk hbc6, zwk hbc6, zwk hbc6, zwk hbc6, zwk hbc6, zwk hbc6, zwk hbc6, zwk hbc6⟩
         clear hK K
         try simp only [zv9, zwa, zwb, Act.put, zwc, List.set_cons_succ, List.set_cons_zero]
         refine tk 7 ?_
         refine tk 8 ?_
         refine tk 9 ?_
         refine tk 10 ?_
         refine tk 11 ?_
         refine tk 12 ?_
         refine tk 13 ?_
         refine tk 14 ?_
         refine tk 15 ?_
         refine tk 16 ?_
         refine tk 17 ?_
         refine tk 18 ?_
         refine tk 19 ?_
         refine tk 21 ?_
         refine rd 20 fun K hK => ?_
         go_simp
         refine (zal y _).mono ?_
         rintro e wc20 ⟨rfl, hbc20⟩
         try dsimp only
         refine hK.out _ _ ?_ (fun hHeld => ?_)
         ·(try dsimp only); go_split_ands; exact ⟨zg.below (by assumption) hbc20, zwk hbc20, zwk hbc20, zwk hbc20, zwk hbc20, zwk hbc20, zwk hbc20, zwk hbc20, zwk hbc20, zwk hbc20, zwk hbc20⟩
         clear hK K
         try simp only [zv9, zwa, zwb, Act.put, zwc, List.set_cons_succ, List.set_cons_zero]
         refine rd 22 fun K hK => ?_
         go_simp
         refine (zad x _).mono ?_
         rintro e wc22 ⟨rfl, hbc22⟩
         try dsimp only
         refine hK.out _ _ ?_ (fun hHeld => ?_)
         ·exact zz3
         clear hK K
         try simp only [zv9, zwa, zwb, Act.put, zwc, List.set_cons_succ, List.set_cons_zero]
         refine rd 23 fun K hK => ?_
         go_simp
         refine (HC2.out _ (by first | assumption | exact And.left (by assumption)) HSC.out (V.zbr HBY.out) (V.zbc HBK.out)).mono ?_
         rintro e wc23 ⟨rfl, hbc23⟩
         try dsimp only
         refine hK.out _ _ ?_ (fun hHeld => ?_)
         ·exact zz2
         clear hK K
         try simp only [zv9, zwa, zwb, Act.put, zwc, List.set_cons_succ, List.set_cons_zero]
         refine tk 24 ?_
         refine tk 25 ?_
         refine tk 26 ?_
         refine wpAnyH_done (by kernel_rfl) ?_ _
         have hbz1 : Below W1.heap.size W1 wc6 := ((((zwh W1.heap.size W1).drew).trans (show Below W1.heap.size W1.drew wc3 from hbc3)).trans (hbc5.mono (show W1.heap.size ≤ wc3.heap.size from hbc3.size))).trans (hbc6.mono (Nat.le_trans (show W1.heap.size ≤ wc3.heap.size from hbc3.size) hbc5.size))
         have hbz2 : Below wc6.heap.size wc6 wc23 := (hbc20.trans (hbc22.mono hbc20.size)).trans (hbc23.mono (Nat.le_trans hbc20.size hbc22.size))
         have HBZ := zwe (HBAW.out.trans ((hbz1.trans (hbz2.mono hbz1.size)).mono HBAW.out.size))
         have HBZ0 := zwe (HBA.out.trans ((hbz1.trans (hbz2.mono hbz1.size)).mono HBA.out.size))
         clear hbc3 hbc5 hbc6 hbc20 hbc22 hbc23 hHeld hbz1 hbz2
         by_cases hz2 : 0 ≤ z2
         ·have HNO : Hid (V.ordB n l = false) := zwe (zhr hlt (by rw [HOK2.out]; exact decide_eq_false (by omega)))
          go_wp2
          go_ret
          exact ⟨zc (by rw [HF3.out, HNO.out]), HBZ0.out⟩
         ·have HOK : Hid (∀ i, i < k + 1 -> V.okAt n l i = true) := zwe (zez HZ.out (by rw [HOK2.out]; exact decide_eq_true (by omega)))
          exact zzt
      ·obtain rfl : k = l.length := by omega
       have HR : Hid (V.okR n l = true) := zwe (by rw [HF3.out]; exact (V.zcm n l).2 HZ.out)
       go_wp2
       go_ret
       exact ⟨zc HR.out.symm, HBG.out⟩
theorem znt {l : V.Bs} {k : Nat} (h : k < l.length) : (l.take (k + 1)).flatMap V.encB = (l.take k).flatMap V.encB ++ V.encB l[k] := by
 rw [List.take_succ_eq_append_getElem h, List.flatMap_append]
 simp
theorem zu1 (l : V.Bs) (k : Nat) : ((l.take k).flatMap V.encB).length ≤ 3 * l.length := by
 rw [V.zkz]
 exact zt5 l k
theorem zpb {n : Nat} (h : n < 16) : (ByteArray.mk #[48, 49, 50, 51, 52, 53, 54, 55, 56, 57, 65, 66, 67, 68, 69, 70]).data.toList[n]? = some (V.digU.getD n 0) := by
 have : ∀ m : Fin 16, (ByteArray.mk #[48, 49, 50, 51, 52, 53, 54, 55, 56, 57, 65, 66, 67, 68, 69, 70]).data.toList[m.val]? = some (V.digU.getD m.val 0) := by decide
 exact this ⟨n, h⟩
theorem zxx {P : Prop} (h : P := by
 have HN : Hid ((s.data.toList.take (k + 1)).flatMap V.encB = L ++ [c]) := zwe (by rw [HT.out]; unfold V.encB; rw [hp]; rfl)
 clear hp HT
 have HB2 : Hid (Buf w'.heap.size (.slice oa L.length oc) L w' (w2.alloc (.cells #[.int .u8 s[k].toNat] 5))) := zwe (HB.out.below ((zwh _ w2).alloc (zwg _) _))
 go_wp2_with (first | (refine zaq rfl _ _ rfl w'.heap.size (.slice oa L.length oc) L w' rfl HB2.out w2.heap.size 1 [c] rfl ?_ (by simp; omega) ?_; rotate_left; intro v9 w9 hb9) | fail)
 ·have HB9 := zwe hb9
  clear hb9
  go_wp2
  go_roundw
  case rel => exact ⟨k + 1, by omega, by go_num, by rw [HN.out]; exact HB9.out⟩
  case measure => simp [intOf]; omega
 ·rw [← HC.out]
  exact kx [c] w2) : P := h
theorem zye {P : Prop} (h : P := by
 obtain rfl : k = s.size := by omega
 have ht : s.data.toList.take s.size = s.data.toList := List.take_of_length_le (by omega)
 rw [ht, ← HW.out] at HB
 have hcv := zcu HB.out (by rw [V.vx]; have := HP.out; unfold V.ww; omega)
 have hll : ((s.data.toList.take s.size).flatMap V.encB).length = (V.word s.data.toList).length := by rw [ht, HW.out]
 rw [hll] at *
 have HBL := zwe HB.out.2.1
 go_wp2
 go_ret
 exact ⟨rfl, HBL.out⟩) : P := h
theorem zyq {P : Prop} (h : P := by
 go_wp2
 go_roundw
 case rel => exact ⟨k + 1, by omega, by go_num, by rw [HN.out]; exact HB9.out⟩
 case measure => simp [intOf]; omega) : P := h
theorem zqt (s : ByteArray) (w : World) (hs : s.size ≤ 100000) : Calls Tryz.prog 66 #[.string s] w fun e w' => e = .returned (.string ⟨(V.word s.data.toList).toArray⟩) /\ Below w.heap.size w w' := by
 by_cases h0 : s.data.toList = []
 ·have hs0 : s = ⟨#[]⟩ := jk (by rw [h0])
  subst hs0
  go_enter Tryz.func66, Tryz.ntmps66
  go_wp2
  go_ret
  exact ⟨rfl, zwh _ _⟩
 ·have hse : s.toList.isEmpty = false := by
   rw [Lib.toList_data]
   cases hq : s.data.toList with
   | nil => exact absurd hq h0
   | cons c r => rfl
  have HW : Hid (V.word s.data.toList = s.data.toList.flatMap V.encB) := zwe (by
    unfold V.word
    cases hq : s.data.toList with
    | nil => exact absurd hq h0
    | cons c r => rw [List.isEmpty_cons, if_neg (by decide)])
  have HP : Hid (0 < s.data.toList.length) := zwe (List.length_pos_iff.2 h0)
  have hsz := V.xy s.data.toList
  rw [zf] at hsz
  clear h0
  go_enter Tryz.func66, Tryz.ntmps66
  go_wp2_with fail
  refine (zih s w hs).mono ?_
  rintro e w' ⟨rfl, rfl⟩
  clear hse
  go_wp2_with (first | (refine zuw rfl _ rfl w'.heap.size (V.ww s.data.toList) w' (zwh _ _) (zwg _) rfl (by omega) ?_; intro w1 hb1) | fail)
  have HB1 := zwe hb1
  clear hb1
  go_wp2
  go_loopw [3, 4] (fun ov iv wx => ∃ k : Nat, k ≤ s.size /\ iv = .int .i64 k /\ Buf w'.heap.size ov ((s.data.toList.take k).flatMap V.encB) w' wx) (fun _ iv _ => s.size - (intOf iv).toNat)
  case atStart => exact ⟨0, Nat.zero_le _, rfl, HB1.out⟩
  case round =>
   obtain ⟨k, hk, rfl, hb⟩ := hrel
   have HB := zwe hb
   obtain ⟨oa, oc, rfl⟩ := hb.slice
   have hl := zf s
   have hle := zu1 s.data.toList k
   rw [hl] at hle
   clear hb HB1
   by_cases hlt : k < s.size
   ·have HT := zwe (znt (l := s.data.toList) (k := k) (by omega))
    have he : s.data.toList[k]'(by omega) = s[k] := by simp; rfl
    rw [he] at HT
    have hs1 : (0 : Int) ≤ (k : Int) := by omega
    have hs2 : (k : Int) < (s.size : Int) := by omega
    obtain ⟨L, hL⟩ : ∃ L, L = (s.data.toList.take k).flatMap V.encB := ⟨_, rfl⟩
    rw [← hL] at HT hle HB ⊢
    obtain ⟨c, hc⟩ : ∃ c, c = s[k] := ⟨_, rfl⟩
    have HCI : Hid (s.data.toList[((k : Int)).toNat]? = some c) := zwe (by rw [Int.toNat_natCast, List.getElem?_eq_getElem (by omega), he, ← hc])
    have hc256 := c.toNat_lt
    have HD1 : Hid ((ByteArray.mk #[48, 49, 50, 51, 52, 53, 54, 55, 56, 57, 65, 66, 67, 68, 69, 70]).data.toList[(((c.toNat / 16 : Nat) : Int)).toNat]? = some (V.digU.getD (c.toNat / 16) 0)) := zwe (by rw [Int.toNat_natCast]; exact zpb (by omega))
    have HD2 : Hid ((ByteArray.mk #[48, 49, 50, 51, 52, 53, 54, 55, 56, 57, 65, 66, 67, 68, 69, 70]).data.toList[(((c.toNat % 16 : Nat) : Int)).toNat]? = some (V.digU.getD (c.toNat % 16) 0)) := zwe (by rw [Int.toNat_natCast]; exact zpb (by omega))
    rw [← hc] at HT
    have HC := zwe hc
    clear he hl hL hc
    go_wp2_with fail
    rw [← HC.out]
    refine (za6 c wr).mono ?_
    rintro e w2 ⟨rfl, rfl⟩
    rcases hp : V.jd c with _ | _
    ·have HN : Hid ((s.data.toList.take (k + 1)).flatMap V.encB = L ++ [37, V.digU.getD (c.toNat / 16) 0, V.digU.getD (c.toNat % 16) 0]) := zwe (by rw [HT.out]; unfold V.encB; rw [hp]; rfl)
     clear hp HT
     go_wp2_with fail
     refine wp_region_any (by kernel_rfl) ?_
     change wpAny _ _ _ _ _ _ _ (World.drew _)
     have HB3 := zwe (HB.out.below (zwh _ w2).drew)
     clear HB
     generalize w2.drew = w3 at *
     refine wpAny_take (i := 0) (v := .slice oa L.length oc) rfl (by kernel_rfl) (by kernel_rfl) (by kernel_rfl) (fun _ _ _ h => h) (Or.inl ⟨by rfl, fun W => by go_simp⟩) ?_
     refine wpAny_take (i := 1) (v := .string s) rfl (by kernel_rfl) (by kernel_rfl) (by kernel_rfl) (fun _ _ _ h => h) (Or.inl ⟨by rfl, fun W => by go_simp⟩) ?_
     refine wpAny_take (i := 2) (v := .int .i64 k) rfl (by kernel_rfl) (by kernel_rfl) (by kernel_rfl) (fun _ _ _ h => h) (Or.inl ⟨by rfl, fun W => by go_simp⟩) ?_
     refine wpAny_take (i := 6) (v := .string s) rfl (by kernel_rfl) (by kernel_rfl) (by kernel_rfl) (fun _ _ _ h => h) (Or.inl ⟨by rfl, fun W => by go_simp⟩) ?_
     refine wpAny_take (i := 7) (v := .int .i64 k) rfl (by kernel_rfl) (by kernel_rfl) (by kernel_rfl) (fun _ _ _ h => h) (Or.inl ⟨by rfl, fun W => by go_simp⟩) ?_
     simp only [zv9, zwa, zwb, Act.put, zwc, List.set_cons_succ, List.set_cons_zero]
     refine wpAny_take (i := 3) (v := .int .u8 c.toNat) rfl (by kernel_rfl) (by kernel_rfl) (by kernel_rfl) (fun _ _ _ h => h) (Or.inl ⟨by rfl, fun W => yb rfl rfl rfl hs1 HCI.out⟩) ?_
     refine wpAny_take (i := 8) (v := .int .u8 c.toNat) rfl (by kernel_rfl) (by kernel_rfl) (by kernel_rfl) (fun _ _ _ h => h) (Or.inl ⟨by rfl, fun W => yb rfl rfl rfl hs1 HCI.out⟩) ?_
     simp only [zv9, zwa, zwb, Act.put, zwc, List.set_cons_succ, List.set_cons_zero]
     refine wpAny_take (i := 4) (v := .int .u8 ((c.toNat / 16 : Nat) : Int)) rfl (by kernel_rfl) (by kernel_rfl) (by kernel_rfl) (fun _ _ _ h => h) (Or.inl ⟨by rfl, fun W => zu5 rfl rfl rfl⟩) ?_
     refine wpAny_take (i := 9) (v := .int .u8 ((c.toNat % 16 : Nat) : Int)) rfl (by kernel_rfl) (by kernel_rfl) (by kernel_rfl) (fun _ _ _ h => h) (Or.inl ⟨by rfl, fun W => zrd rfl rfl rfl⟩) ?_
     simp only [zv9, zwa, zwb, Act.put, zwc, List.set_cons_succ, List.set_cons_zero]
     refine wpAny_take (i := 5) (v := .int .u8 (V.digU.getD (c.toNat / 16) 0).toNat) rfl (by kernel_rfl) (by kernel_rfl) (by kernel_rfl) (fun _ _ _ h => h) (Or.inl ⟨by rfl, fun W => yb rfl rfl rfl (by omega) HD1.out⟩) ?_
     refine wpAny_take (i := 10) (v := .int .u8 (V.digU.getD (c.toNat % 16) 0).toNat) rfl (by kernel_rfl) (by kernel_rfl) (by kernel_rfl) (fun _ _ _ h => h) (Or.inl ⟨by rfl, fun W => yb rfl rfl rfl (by omega) HD2.out⟩) ?_
     simp only [zv9, zwa, zwb, Act.put, zwc, List.set_cons_succ, List.set_cons_zero]
     refine wpAny_all (rs := [11]) (by kernel_rfl) (by simp) ?_
     intro i0 hi0
     obtain rfl : i0 = 11 := by simpa using hi0
     clear hi0
     refine wpOp_step (by rfl) (fun K hK => zgg rfl _ _ _ rfl 37 (V.digU.getD (c.toNat / 16) 0) (V.digU.getD (c.toNat % 16) 0) rfl rfl rfl (hK _ _ ?_))
     clear hK K
     have HBN := zwe (kx [37, V.digU.getD (c.toNat / 16) 0, V.digU.getD (c.toNat % 16) 0] w3)
     have HB4 := zwe (HB3.out.below ((zwh _ w3).alloc (zwg _) (.cells (bvals [37, V.digU.getD (c.toNat / 16) 0, V.digU.getD (c.toNat % 16) 0]).toArray 5)))
     clear HB3
     generalize w3.alloc (.cells (bvals [37, V.digU.getD (c.toNat / 16) 0, V.digU.getD (c.toNat % 16) 0]).toArray 5) = w4 at *
     simp only [zv9, zwa, zwb, Act.put, zwc, List.set_cons_succ, List.set_cons_zero]
     refine wpAny_all (rs := [12]) (by kernel_rfl) (by simp) ?_
     intro i0 hi0
     obtain rfl : i0 = 12 := by simpa using hi0
     clear hi0
     refine wpOp_step (by rfl) (fun K hK => ?_)
     refine zk5 rfl _ _ rfl w'.heap.size (.slice oa L.length oc) L w' rfl HB4.out w3.heap.size 3 [37, V.digU.getD (c.toNat / 16) 0, V.digU.getD (c.toNat % 16) 0] rfl HBN.out (by simp; omega) ?_
     intro v9 w9 hb9
     refine hK _ _ ?_
     clear hK K
     have HB9 := zwe hb9
     clear hb9 HBN HB4
     simp only [zv9, zwa, zwb, Act.put, zwc, List.set_cons_succ, List.set_cons_zero]
     refine wpAny_take (i := 13) (v := v9) rfl (by kernel_rfl) (by kernel_rfl) (by kernel_rfl) (fun _ _ _ h => h) (Or.inl ⟨by rfl, fun W => by go_simp⟩) ?_
     simp only [zv9, zwa, zwb, Act.put, zwc, List.set_cons_succ, List.set_cons_zero]
     refine wpAny_done (by kernel_rfl) ?_ _
     exact zyq
    ·exact zxx
   ·exact zye
open Go.RowKit
theorem zo9 (s : ByteArray) (w : World) (hs : s.size ≤ 100000) : Calls Tryz.prog 46 #[.string s] w fun e w' => e = .returned (.string ⟨(V.word s.data.toList).toArray⟩) /\ Below w.heap.size w w' := by
 by_cases h0 : s.data.toList = []
 ·have hs0 : s = ⟨#[]⟩ := jk (by rw [h0])
  subst hs0
  go_enter Tryz.func46, Tryz.ntmps46
  go_wp2
  go_ret
  exact ⟨rfl, zwh _ _⟩
 ·have hse : s.toList.isEmpty = false := by
   rw [Lib.toList_data]
   cases hq : s.data.toList with
   | nil => exact absurd hq h0
   | cons c r => rfl
  have HW : Hid (V.word s.data.toList = s.data.toList.flatMap V.encB) := zwe (by
    unfold V.word
    cases hq : s.data.toList with
    | nil => exact absurd hq h0
    | cons c r => rw [List.isEmpty_cons, if_neg (by decide)])
  have HP : Hid (0 < s.data.toList.length) := zwe (List.length_pos_iff.2 h0)
  have hsz := V.xy s.data.toList
  rw [zf] at hsz
  clear h0
  go_enter Tryz.func46, Tryz.ntmps46
  obtain ⟨w', hw'⟩ : ∃ w', w' = w := ⟨_, rfl⟩
  subst hw'
  have HB1 : Hid (Buf w'.heap.size (.slice none 0 0) [] w' w') := zwe (Buf.nil (zwh _ _) (zwg _))
  go_wp2
  clear hse
  go_loopw [4, 5] (fun ov iv wx => ∃ k : Nat, k ≤ s.size /\ iv = .int .i64 k /\ Buf w'.heap.size ov ((s.data.toList.take k).flatMap V.encB) w' wx) (fun _ iv _ => s.size - (intOf iv).toNat)
  case atStart => exact ⟨0, Nat.zero_le _, rfl, HB1.out⟩
  case round =>
   obtain ⟨k, hk, rfl, hb⟩ := hrel
   have HB := zwe hb
   obtain ⟨oa, oc, rfl⟩ := hb.slice
   have hl := zf s
   have hle := zu1 s.data.toList k
   rw [hl] at hle
   clear hb HB1
   by_cases hlt : k < s.size
   ·have HT := zwe (znt (l := s.data.toList) (k := k) (by omega))
    have he : s.data.toList[k]'(by omega) = s[k] := by simp; rfl
    rw [he] at HT
    have hs1 : (0 : Int) ≤ (k : Int) := by omega
    have hs2 : (k : Int) < (s.size : Int) := by omega
    obtain ⟨L, hL⟩ : ∃ L, L = (s.data.toList.take k).flatMap V.encB := ⟨_, rfl⟩
    rw [← hL] at HT hle HB ⊢
    obtain ⟨c, hc⟩ : ∃ c, c = s[k] := ⟨_, rfl⟩
    have HCI : Hid (s.data.toList[((k : Int)).toNat]? = some c) := zwe (by rw [Int.toNat_natCast, List.getElem?_eq_getElem (by omega), he, ← hc])
    have hc256 := c.toNat_lt
    have HD1 : Hid ((ByteArray.mk #[48, 49, 50, 51, 52, 53, 54, 55, 56, 57, 65, 66, 67, 68, 69, 70]).data.toList[(((c.toNat / 16 : Nat) : Int)).toNat]? = some (V.digU.getD (c.toNat / 16) 0)) := zwe (by rw [Int.toNat_natCast]; exact zpb (by omega))
    have HD2 : Hid ((ByteArray.mk #[48, 49, 50, 51, 52, 53, 54, 55, 56, 57, 65, 66, 67, 68, 69, 70]).data.toList[(((c.toNat % 16 : Nat) : Int)).toNat]? = some (V.digU.getD (c.toNat % 16) 0)) := zwe (by rw [Int.toNat_natCast]; exact zpb (by omega))
    rw [← hc] at HT
    have HC := zwe hc
    clear he hl hL hc
    go_wp2_with fail
    rw [← HC.out]
    refine (zci c wr).mono ?_
    rintro e w2 ⟨rfl, rfl⟩
    rcases hp : V.jd c with _ | _
    ·have HN : Hid ((s.data.toList.take (k + 1)).flatMap V.encB = L ++ [37, V.digU.getD (c.toNat / 16) 0, V.digU.getD (c.toNat % 16) 0]) := zwe (by rw [HT.out]; unfold V.encB; rw [hp]; rfl)
     clear hp HT
     go_wp2_with fail
     refine wp_region_any (by kernel_rfl) ?_
     change wpAny _ _ _ _ _ _ _ (World.drew _)
     have HB3 := zwe (HB.out.below (zwh _ w2).drew)
     clear HB
     generalize w2.drew = w3 at *
     refine wpAny_take (i := 1) (v := .string ⟨#[48, 49, 50, 51, 52, 53, 54, 55, 56, 57, 65, 66, 67, 68, 69, 70]⟩) rfl (by kernel_rfl) (by kernel_rfl) (by kernel_rfl) (fun _ _ _ h => h) (Or.inl ⟨by rfl, fun W => by go_simp⟩) ?_
     refine wpAny_take (i := 7) (v := .string ⟨#[48, 49, 50, 51, 52, 53, 54, 55, 56, 57, 65, 66, 67, 68, 69, 70]⟩) rfl (by kernel_rfl) (by kernel_rfl) (by kernel_rfl) (fun _ _ _ h => h) (Or.inl ⟨by rfl, fun W => by go_simp⟩) ?_
     refine wpAny_take (i := 0) (v := .slice oa L.length oc) rfl (by kernel_rfl) (by kernel_rfl) (by kernel_rfl) (fun _ _ _ h => h) (Or.inl ⟨by rfl, fun W => by go_simp⟩) ?_
     refine wpAny_take (i := 2) (v := .string s) rfl (by kernel_rfl) (by kernel_rfl) (by kernel_rfl) (fun _ _ _ h => h) (Or.inl ⟨by rfl, fun W => by go_simp⟩) ?_
     refine wpAny_take (i := 3) (v := .int .i64 k) rfl (by kernel_rfl) (by kernel_rfl) (by kernel_rfl) (fun _ _ _ h => h) (Or.inl ⟨by rfl, fun W => by go_simp⟩) ?_
     refine wpAny_take (i := 8) (v := .string s) rfl (by kernel_rfl) (by kernel_rfl) (by kernel_rfl) (fun _ _ _ h => h) (Or.inl ⟨by rfl, fun W => by go_simp⟩) ?_
     refine wpAny_take (i := 9) (v := .int .i64 k) rfl (by kernel_rfl) (by kernel_rfl) (by kernel_rfl) (fun _ _ _ h => h) (Or.inl ⟨by rfl, fun W => by go_simp⟩) ?_
     simp only [zv9, zwa, zwb, Act.put, zwc, List.set_cons_succ, List.set_cons_zero]
     refine wpAny_take (i := 4) (v := .int .u8 c.toNat) rfl (by kernel_rfl) (by kernel_rfl) (by kernel_rfl) (fun _ _ _ h => h) (Or.inl ⟨by rfl, fun W => yb rfl rfl rfl hs1 HCI.out⟩) ?_
     refine wpAny_take (i := 10) (v := .int .u8 c.toNat) rfl (by kernel_rfl) (by kernel_rfl) (by kernel_rfl) (fun _ _ _ h => h) (Or.inl ⟨by rfl, fun W => yb rfl rfl rfl hs1 HCI.out⟩) ?_
     simp only [zv9, zwa, zwb, Act.put, zwc, List.set_cons_succ, List.set_cons_zero]
     refine wpAny_take (i := 5) (v := .int .u8 ((c.toNat / 16 : Nat) : Int)) rfl (by kernel_rfl) (by kernel_rfl) (by kernel_rfl) (fun _ _ _ h => h) (Or.inl ⟨by rfl, fun W => zu5 rfl rfl rfl⟩) ?_
     refine wpAny_take (i := 11) (v := .int .u8 ((c.toNat % 16 : Nat) : Int)) rfl (by kernel_rfl) (by kernel_rfl) (by kernel_rfl) (fun _ _ _ h => h) (Or.inl ⟨by rfl, fun W => zrd rfl rfl rfl⟩) ?_
     simp only [zv9, zwa, zwb, Act.put, zwc, List.set_cons_succ, List.set_cons_zero]
     refine wpAny_take (i := 6) (v := .int .u8 (V.digU.getD (c.toNat / 16) 0).toNat) rfl (by kernel_rfl) (by kernel_rfl) (by kernel_rfl) (fun _ _ _ h => h) (Or.inl ⟨by rfl, fun W => yb rfl rfl rfl (by omega) HD1.out⟩) ?_
     refine wpAny_take (i := 12) (v := .int .u8 (V.digU.getD (c.toNat % 16) 0).toNat) rfl (by kernel_rfl) (by kernel_rfl) (by kernel_rfl) (fun _ _ _ h => h) (Or.inl ⟨by rfl, fun W => yb rfl rfl rfl (by omega) HD2.out⟩) ?_
     simp only [zv9, zwa, zwb, Act.put, zwc, List.set_cons_succ, List.set_cons_zero]
     refine wpAny_all (rs := [13]) (by kernel_rfl) (by simp) ?_
     intro i0 hi0
     obtain rfl : i0 = 13 := by simpa using hi0
     clear hi0
     refine wpOp_step (by rfl) (fun K hK => zgg rfl _ _ _ rfl 37 (V.digU.getD (c.toNat / 16) 0) (V.digU.getD (c.toNat % 16) 0) rfl rfl rfl (hK _ _ ?_))
     clear hK K
     have HBN := zwe (kx [37, V.digU.getD (c.toNat / 16) 0, V.digU.getD (c.toNat % 16) 0] w3)
     have HB4 := zwe (HB3.out.below ((zwh _ w3).alloc (zwg _) (.cells (bvals [37, V.digU.getD (c.toNat / 16) 0, V.digU.getD (c.toNat % 16) 0]).toArray 5)))
     clear HB3
     generalize w3.alloc (.cells (bvals [37, V.digU.getD (c.toNat / 16) 0, V.digU.getD (c.toNat % 16) 0]).toArray 5) = w4 at *
     simp only [zv9, zwa, zwb, Act.put, zwc, List.set_cons_succ, List.set_cons_zero]
     refine wpAny_all (rs := [14]) (by kernel_rfl) (by simp) ?_
     intro i0 hi0
     obtain rfl : i0 = 14 := by simpa using hi0
     clear hi0
     refine wpOp_step (by rfl) (fun K hK => ?_)
     refine zk5 rfl _ _ rfl w'.heap.size (.slice oa L.length oc) L w' rfl HB4.out w3.heap.size 3 [37, V.digU.getD (c.toNat / 16) 0, V.digU.getD (c.toNat % 16) 0] rfl HBN.out (by simp; omega) ?_
     intro v9 w9 hb9
     refine hK _ _ ?_
     clear hK K
     have HB9 := zwe hb9
     clear hb9 HBN HB4
     simp only [zv9, zwa, zwb, Act.put, zwc, List.set_cons_succ, List.set_cons_zero]
     refine wpAny_take (i := 15) (v := v9) rfl (by kernel_rfl) (by kernel_rfl) (by kernel_rfl) (fun _ _ _ h => h) (Or.inl ⟨by rfl, fun W => by go_simp⟩) ?_
     simp only [zv9, zwa, zwb, Act.put, zwc, List.set_cons_succ, List.set_cons_zero]
     refine wpAny_done (by kernel_rfl) ?_ _
     exact zyq
    ·exact zxx
   ·exact zye
def Lines (w : World) (v : Value) (ls : List (List V.Bs)) : Prop :=
 ∃ a cap, v = .slice a ls.length cap /\ ∀ j (h : j < ls.length), ∃ b off u, a = some ⟨b, off, none⟩ /\ b < w.heap.size /\ w.cell? ⟨b, off + j, none⟩ = some u /\ Strs w u ls[j]
theorem z10 {P : Prop} (h : P := by
 exact ⟨b, off, ea, Nat.lt_of_lt_of_le hlt hb.size, (hb.cell (p := ⟨b, off + j, none⟩) hlt).trans hr⟩) : P := h
theorem xt {w w' : World} {v : Value} {l : List V.Bs} (h : Strs w v l) (hb : Below w.heap.size w w') : Strs w' v l := by
 obtain ⟨a, cap, e, hc⟩ := h
 refine ⟨a, cap, e, fun j hj => ?_⟩
 obtain ⟨b, off, ea, hlt, hr⟩ := hc j hj
 exact z10
theorem Lines.below {w w' : World} {v : Value} {ls : List (List V.Bs)} (h : Lines w v ls) (hb : Below w.heap.size w w') : Lines w' v ls := by
 obtain ⟨a, cap, e, hc⟩ := h
 refine ⟨a, cap, e, fun j hj => ?_⟩
 obtain ⟨b, off, u, ea, hlt, hr, hs⟩ := hc j hj
 exact ⟨b, off, u, ea, Nat.lt_of_lt_of_le hlt hb.size, (hb.cell (p := ⟨b, off + j, none⟩) hlt).trans hr, xt hs hb⟩
theorem kn (x : V.Bs) : (ByteArray.mk x.toArray).data.toList = x := by simp
theorem yo (x : V.Bs) : (ByteArray.mk x.toArray).size = x.length := by simp [ByteArray.size]
theorem zko (x : V.Bs) (w : World) (hs : x.length ≤ 100000) : Calls Tryz.prog 65 #[.string ⟨x.toArray⟩] w fun e w' => e = .returned (.int .i64 (V.ww x : Nat)) /\ w' = w := by
 have := zih ⟨x.toArray⟩ w (by rw [yo]; exact hs)
 rwa [kn] at this
theorem zk0 (x : V.Bs) (w : World) (hs : x.length ≤ 100000) : Calls Tryz.prog 66 #[.string ⟨x.toArray⟩] w fun e w' => e = .returned (.string ⟨(V.word x).toArray⟩) /\ Below w.heap.size w w' := by
 have := zqt ⟨x.toArray⟩ w (by rw [yo]; exact hs)
 rwa [kn] at this
theorem zid (x : V.Bs) (w : World) (hs : x.length ≤ 100000) : Calls Tryz.prog 46 #[.string ⟨x.toArray⟩] w fun e w' => e = .returned (.string ⟨(V.word x).toArray⟩) /\ Below w.heap.size w w' := by
 have := zo9 ⟨x.toArray⟩ w (by rw [yo]; exact hs)
 rwa [kn] at this
theorem z15 {P : Prop} (h : P := by
 go_wp2
 go_round
 case rel => exact ⟨k + 1, by omega, by go_num⟩
 case measure => simp [intOf]; omega) : P := h
theorem zqg (v : Value) (l : List V.Bs) (w : World) (hv : Strs w v l) (h0 : 0 < l.length) (h1 : l.length ≤ 120) (hw : ∀ x ∈ l, x.length ≤ 32768) :
  Calls Tryz.prog 51 #[v] w fun e w' => e = .returned (.int .i64 0) /\ w' = w := by
 obtain ⟨va, vc, rfl, hat⟩ := hv
 have HA := zwe hat
 have HW := zwe hw
 clear hat hw
 have hn0 : ((l.length : Int) == 0) = false := by rw [zwi]; omega
 have hn1 : ¬ (120 : Int) < (l.length : Int) := by omega
 go_enter Tryz.func51, Tryz.ntmps51
 go_wp2
 go_loop [15] (fun iv => ∃ k : Nat, k ≤ l.length /\ iv = .int .i64 k) (fun iv => l.length - (intOf iv).toNat)
 case atStart => exact ⟨0, Nat.zero_le _, rfl⟩
 case round =>
  obtain ⟨k, hk, rfl⟩ := hrel
  by_cases hlt : k < l.length
  ·obtain ⟨b, off, rfl, hb, hc⟩ := HA.out k hlt
   have hx := HW.out _ (List.getElem_mem hlt)
   have hi1 : (0 : Int) ≤ (k : Int) := by omega
   have hi2 : (k : Int) < (l.length : Int) := by omega
   generalize l[k] = x at *
   have hxs := yo x
   have hx2 : ¬ (32768 : Int) < (x.length : Int) := by omega
   have hx3 : ¬ (32768 : Int) < ((ByteArray.mk x.toArray).size : Int) := by rw [hxs]; omega
   exact z15
  ·obtain rfl : k = l.length := by omega
   go_wp2
   go_ret
   exact ⟨rfl, rfl⟩
theorem zwz {P : Prop} (h : P := by
 obtain ⟨ua, uc, rfl, hus⟩ := hs
 have HU := zwe hus
 have hi1 : (0 : Int) ≤ (k : Int) := by omega
 have hi2 : (k : Int) < (ls.length : Int) := by omega
 have HT := zwe (V.yt hlt)
 have hnext := V.zcy (j := k + 1) (by omega) (zwg ls.length)
 rw [HT.out] at hnext
 obtain ⟨q, hq⟩ : ∃ q, q = V.jp ls k := ⟨_, rfl⟩
 rw [← hq] at HT htot hnext ⊢
 generalize ls[k] = l at *
 clear hus hq
 go_wp2
 go_loop [7, 40] (fun tv iv => ∃ j : Nat, j ≤ l.length /\ iv = .int .i64 j /\ tv = .int .i64 ((q + V.jl l j : Nat) : Int)) (fun _ iv => l.length - (intOf iv).toNat)
 case atStart => exact ⟨0, Nat.zero_le _, rfl, rfl⟩
 case round =>
  obtain ⟨j, hj, rfl, rfl⟩ := hrel
  have hle := V.zbq (l := l) hj (zwg l.length)
  by_cases hjl : j < l.length
  ·obtain ⟨b2, off2, rfl, hb2, hc2⟩ := HU.out j hjl
   have hx := HX.out.2.2 _ (List.getElem_mem hjl)
   have hl120 := HX.out.2.1
   have HT2 := zwe (V.zcf hjl)
   have hle2 := V.zbq (l := l) (j := j + 1) (by omega) (zwg l.length)
   rw [HT2.out] at hle2
   have hj1 : (0 : Int) ≤ (j : Int) := by omega
   have hj2 : (j : Int) < (l.length : Int) := by omega
   generalize l[j] = x at *
   obtain ⟨r, hr⟩ : ∃ r, r = V.jl l j := ⟨_, rfl⟩
   rw [← hr] at HT2 hle hle2 ⊢
   obtain ⟨z, hz⟩ : ∃ z, z = V.ww x := ⟨_, rfl⟩
   rw [← hz] at HT2 hle2
   have HZ := zwe hz
   clear hr hz
   go_wp2_with fail
   refine (zko x w (by omega)).mono ?_
   rintro e w' ⟨rfl, rfl⟩
   rw [← HZ.out]
   go_wp2
   go_round
   case rel => exact ⟨j + 1, by omega, by go_num, by rw [HT2.out]; go_num⟩
   case measure => simp [intOf]; omega
  ·obtain rfl : j = l.length := by omega
   go_wp2
   go_round
   case rel => exact ⟨k + 1, by omega, by go_num, by rw [HT.out]⟩
   case measure => simp [intOf]; omega) : P := h
theorem zmz (v : Value) (ls : List (List V.Bs)) (w : World) (hv : Lines w v ls) (hd : V.DocOk ls) :
  Calls Tryz.prog 35 #[v] w fun e w' => ∃ u, e = .returned (.tuple #[u, .int .i64 0]) /\ Buf w.heap.size u (V.doc ls) w w' := by
 have HL := zwe hv
 obtain ⟨va, vc, rfl, hat⟩ := hv
 have HA := zwe hat
 have HD := zwe hd
 have hn := hd.lines
 have hn1 : ¬ (1000 : Int) < (ls.length : Int) := by omega
 clear hat hd
 go_enter Tryz.func35, Tryz.ntmps35
 go_wp2
 go_loop [22] (fun iv => ∃ k : Nat, k ≤ ls.length /\ iv = .int .i64 k) (fun iv => ls.length - (intOf iv).toNat)
 case atStart => exact ⟨0, Nat.zero_le _, rfl⟩
 case round =>
  obtain ⟨k, hk, rfl⟩ := hrel
  by_cases hlt : k < ls.length
  ·obtain ⟨b, off, u, rfl, hb, hc, hs⟩ := HA.out k hlt
   have HX := zwe (HD.out.line _ (List.getElem_mem hlt))
   have HS := zwe hs
   have hi1 : (0 : Int) ≤ (k : Int) := by omega
   have hi2 : (k : Int) < (ls.length : Int) := by omega
   generalize ls[k] = l at *
   clear hs
   go_wp2_with fail
   refine (zqg u l w HS.out HX.out.1 HX.out.2.1 HX.out.2.2).mono ?_
   rintro e w' ⟨rfl, rfl⟩
   exact z15
  ·obtain rfl : k = ls.length := by omega
   go_wp2
   go_loop [7, 34] (fun tv iv => ∃ k : Nat, k ≤ ls.length /\ iv = .int .i64 k /\ tv = .int .i64 (V.jp ls k : Nat)) (fun _ iv => ls.length - (intOf iv).toNat)
   case atStart => exact ⟨0, Nat.zero_le _, rfl, rfl⟩
   case round =>
    obtain ⟨k, hk, rfl, rfl⟩ := hrel
    have htot := V.zcy (j := k) hk (zwg ls.length)
    have hmax := HD.out.size
    by_cases hlt : k < ls.length
    ·obtain ⟨b, off, u, rfl, hb, hc, hs⟩ := HA.out k hlt
     have HX := zwe (HD.out.line _ (List.getElem_mem hlt))
     exact zwz
    ·obtain rfl : k = ls.length := by omega
     have hbig : ¬ (262144 : Int) < (V.jp ls ls.length : Int) := by omega
     have HLEN : Hid (∀ k, k ≤ ls.length -> (V.zb4 ls k).length = V.jp ls k) := zwe (V.ze3 (fun l hl => (HD.out.line l hl).1))
     obtain ⟨q, hq⟩ : ∃ q, q = V.jp ls ls.length := ⟨_, rfl⟩
     rw [← hq] at hbig hmax ⊢
     have HQ := zwe hq
     clear hlt hk htot hq
     go_wp2_with (first | (refine zuw rfl _ rfl w.heap.size q w (zwh _ _) (zwg _) rfl (by omega) ?_; intro w1 hb1) | fail)
     have HB1 := zwe hb1
     clear hb1 hbig
     go_loopw [12, 57] (fun ov iv wx => ∃ k : Nat, k ≤ ls.length /\ iv = .int .i64 k /\ Buf w.heap.size ov (V.zb4 ls k) w wx) (fun _ iv _ => ls.length - (intOf iv).toNat)
     case atStart => exact ⟨0, Nat.zero_le _, rfl, HB1.out⟩
     case round =>
      obtain ⟨k, hk, rfl, hbuf⟩ := hrel
      have HB := zwe hbuf
      obtain ⟨oa, oc, rfl⟩ := hbuf.slice
      clear hbuf HB1
      by_cases hlt : k < ls.length
      ·have HST := zwe (V.zdj hlt)
       have hlen1 : (V.zb4 ls k).length + (V.line ls[k]).length ≤ 262144 := by
        have h1 := HLEN.out (k + 1) (by omega)
        have h2 := V.zcy (ls := ls) (j := k + 1) (by omega) (zwg ls.length)
        rw [HST.out, List.length_append] at h1
        have := HQ.out
        omega
       obtain ⟨b, off, u, rfl, hb0, hc0, hs⟩ := HA.out k hlt
       have hc := (HB.out.2.1.cell (p := ⟨b, off + k, none⟩) hb0).trans hc0
       have HS := zwe hs
       obtain ⟨ua, uc, rfl, _⟩ := hs
       clear hb0 hc0
       have HX := zwe (HD.out.line _ (List.getElem_mem hlt))
       have hi1 : (0 : Int) ≤ (k : Int) := by omega
       have hi2 : (k : Int) < (ls.length : Int) := by omega
       have HLN : Hid (V.line ls[k] = V.jt ls[k] ls[k].length ++ [10]) := zwe rfl
       have hll : (V.line ls[k]).length = (V.jt ls[k] ls[k].length).length + 1 := by unfold V.line; simp
       obtain ⟨A, hA⟩ : ∃ A, A = V.zb4 ls k := ⟨_, rfl⟩
       rw [← hA] at HST hlen1 HB ⊢
       generalize ls[k] = l at *
       clear hA
       go_wp2
       go_loopw [12, 63] (fun ov iv wx => ∃ j : Nat, j ≤ l.length /\ iv = .int .i64 j /\ Buf w.heap.size ov (A ++ V.jt l j) w wx) (fun _ iv _ => l.length - (intOf iv).toNat)
       case atStart => exact ⟨0, Nat.zero_le _, rfl, by rw [show V.jt l 0 = [] from rfl, List.append_nil]; exact HB.out⟩
       case round =>
        obtain ⟨j, hj, rfl, hbuf⟩ := hrel
        have HB2 := zwe hbuf
        obtain ⟨oa2, oc2, rfl⟩ := hbuf.slice
        clear hbuf HB hc
        by_cases hjl : j < l.length
        ·obtain ⟨ua2, uc2, e2, hat2⟩ := HS.out
         cases e2
         obtain ⟨b2, off2, rfl, hb2, hc0⟩ := hat2 j hjl
         have hc2 := (HB2.out.2.1.cell (p := ⟨b2, off2 + j, none⟩) hb2).trans hc0
         have hx := HX.out.2.2 _ (List.getElem_mem hjl)
         have hl120 := HX.out.2.1
         have hj1 : (0 : Int) ≤ (j : Int) := by omega
         have hj2 : (j : Int) < (l.length : Int) := by omega
         have HT2 := zwe (V.zav l j)
         have hg : l.getD j [] = l[j] := by rw [List.getD_eq_getElem?_getD, List.getElem?_eq_getElem hjl]; rfl
         rw [hg] at HT2
         have hlen2 : A.length + (V.jt l j).length ≤ 270000 := by
          have h1 := (V.zbt (l := l) j hj).1
          have h2 := V.zbq (l := l) hj (zwg l.length)
          have h3 := V.zgu (l := l) HX.out.1
          omega
         obtain ⟨M, hM⟩ : ∃ M, M = A ++ V.jt l j := ⟨_, rfl⟩
         have HM := zwe hM
         have hml : M.length ≤ 270000 := by rw [hM, List.length_append]; exact hlen2
         rw [← hM] at HB2 ⊢
         generalize l[j] = x at *
         clear hat2 hc0 hM hg hlen2 hb2
         by_cases hj0 : j = 0
         ·subst hj0
          rw [Nat.add_zero] at hc2
          go_wp2_with fail
          refine (zk0 x wr (by omega)).mono ?_
          rintro e w3 ⟨rfl, hb3⟩
          have HB3 := zwe (HB2.out.below hb3)
          have hwl := V.vx x
          have hwl2 := V.xy x
          clear hb3 HB2
          go_wp2_with (first | (refine zua rfl _ _ rfl w.heap.size (.slice oa2 M.length oc2) M w rfl HB3.out (V.word x) rfl (by omega) ?_; intro v9 w9 hb9) | fail)
          have HB9 := zwe hb9
          clear hb9 hwl hwl2
          go_wp2
          go_roundw
          case rel => exact ⟨0 + 1, by omega, by go_num, by
            have := HB9.out
            rw [HM.out, List.append_assoc] at this
            rw [HT2.out]
            exact this⟩
          case measure => simp [intOf]; omega
         ·have hjp : (0 : Int) < (j : Int) := by omega
          have hb4 : Below wr.heap.size wr (wr.alloc (.cells #[.int .u8 32] 5)) := (zwh _ wr).alloc (zwg _) _
          have HB4 := zwe (HB2.out.below hb4)
          have HBN := zwe (kx [32] wr)
          clear hb4
          go_wp2_with (first | (refine zaq rfl _ _ rfl w.heap.size (.slice oa2 M.length oc2) M w rfl HB4.out wr.heap.size 1 [32] rfl HBN.out (by simp; omega) ?_; intro v5 w5 hb5) | fail)
          replace HB2 := zwe hb5
          clear hb5 HB4 HBN hc2
          refine (zk0 x w5 (by omega)).mono ?_
          rintro e w3 ⟨rfl, hb3⟩
          have HB3 := zwe (HB2.out.below hb3)
          have hwl := V.vx x
          have hwl2 := V.xy x
          clear hb3 HB2
          go_wp2_with (first | (refine zua rfl _ _ rfl w.heap.size v5 (M ++ [32]) w rfl HB3.out (V.word x) rfl (by simp; omega) ?_; intro v9 w9 hb9) | fail)
          have HB9 := zwe hb9
          clear hb9 hwl hwl2
          go_wp2
          go_roundw
          case rel => exact ⟨j + 1, by omega, by go_num, by
            have := HB9.out
            rw [HM.out, List.append_assoc, List.append_assoc] at this
            rw [HT2.out, if_neg hj0]
            exact this⟩
          case measure => simp [intOf]; omega
        ·obtain rfl : j = l.length := by omega
         have hlen3 : (A ++ V.jt l l.length).length ≤ 270000 := by rw [List.length_append]; omega
         have hA10 : A ++ V.line l = (A ++ V.jt l l.length) ++ [10] := by rw [HLN.out, List.append_assoc]
         rw [hA10] at HST
         obtain ⟨M, hM⟩ : ∃ M, M = A ++ V.jt l l.length := ⟨_, rfl⟩
         rw [← hM] at HB2 HST hlen3 ⊢
         have hb4 : Below wr.heap.size wr (wr.alloc (.cells #[.int .u8 10] 5)) := (zwh _ wr).alloc (zwg _) _
         have HB4 := zwe (HB2.out.below hb4)
         have HBN := zwe (kx [10] wr)
         clear hb4 hA10 hM HB2
         go_wp2_with (first | (refine zaq rfl _ _ rfl w.heap.size (.slice oa2 M.length oc2) M w rfl HB4.out wr.heap.size 1 [10] rfl HBN.out (by simp; omega) ?_; intro v5 w5 hb5) | fail)
         have HB5 := zwe hb5
         clear hb5 HB4 HBN
         go_wp2
         go_roundw
         case rel => exact ⟨k + 1, by omega, by go_num, by rw [HST.out]; exact HB5.out⟩
         case measure => simp [intOf]; omega
      ·obtain rfl : k = ls.length := by omega
       rw [V.zfb] at HB ⊢
       go_wp2
       go_ret2
       exact ⟨_, rfl, HB.out⟩
end Go.Proofs.YtcfbkcapbbhmpaaGreatDoor

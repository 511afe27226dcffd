/-
  Lemmas for the law.
-/
import Derived.Test.YtnhfaincdabdkaaGreatDoorC37x20
import Derived.Test.YtnhfaincdabdkaaGreatDoorC37x21
set_option linter.all false
set_option maxRecDepth 100000
set_option maxHeartbeats 3200000
namespace Go.Proofs.YtnhfaincdabdkaaGreatDoor
open Go.RowKit
theorem zul {P : Prop} (h : P := by
 go_enter Tryz.func110, Tryz.ntmps110
 go_wp2_with fail
 generalize w.alloc (.cells #[.int .i64 n, .slice va l.length vc] 48) = w0 at *
 refine (zck n w0).mono ?_
 rintro e w' ⟨rfl, rfl⟩
 rw [HSC.out]
 go_wp2
 go_ret
 exact ⟨zc HR.out.symm, HB0.out⟩) : P := h
theorem zwt {P : Prop} (h : P := by
 (try dsimp only); go_split_ands; exact ⟨zk.below (by assumption) hbc6, zte hbc6, zte hbc6, zte hbc6, zte hbc6, zte hbc6, zte hbc6⟩) : P := h
theorem zwu {P : Prop} (h : P := by
 (try dsimp only); go_split_ands; exact ⟨zk.below (by assumption) hbc5, zte hbc5, zte hbc5, zte hbc5, zte hbc5, zte hbc5, zte hbc5⟩) : P := h
theorem zwv {P : Prop} (h : P := by
 (try dsimp only); go_split_ands; exact ⟨zk.below (by assumption) hbc3, zte hbc3, zte hbc3, zte hbc3, zte hbc3, zte hbc3, zte hbc3⟩) : P := h
theorem zfm (n : Int) (v : Value) (l : List V.Itv) (w : World) (hm : zk w) (hv : Itvs w v l) (hs : Lens l) (hl : l.length ≤ maxLen) :
  Calls Tryz.prog 110 #[setV n v] w fun e w' => e = .returned (.bool (V.okR n l)) /\ Below w.heap.size w w' := by
 have HV := zs8 hv
 obtain ⟨va, vc, rfl⟩ := hv.slice
 unfold maxLen at hl
 have HS := zs8 hs
 have HF : Hid (V.okR n l = (V.scheme n && (decide (l.length ≤ 32) && (l.all (V.zl n) && V.ordB n l)))) := zs8 rfl
 have hb0 : Below w.heap.size w (w.alloc (.cells #[.int .i64 n, .slice va l.length vc] 48)) := (ztb _ w).alloc (zta _) _
 have HB0 := zs8 hb0
 have HM := zs8 (hm.below hb0)
 have c0 : (w.alloc (.cells #[.int .i64 n, .slice va l.length vc] 48)).cell? ⟨w.heap.size, 0, none⟩ = some (.int .i64 n) := by simp [zd]
 have c1 : (w.alloc (.cells #[.int .i64 n, .slice va l.length vc] 48)).cell? ⟨w.heap.size, 1, none⟩ = some (.slice va l.length vc) := by simp [zd]
 clear hv hs hb0 hm
 unfold setV
 rcases hsch : V.scheme n with _ | _
 ·have HR : Hid (V.okR n l = false) := zs8 (by rw [HF.out, hsch]; rfl)
  have HSC := zs8 hsch
  clear hsch
  exact zul
 ·have HSC := zs8 hsch
  clear hsch
  by_cases h32 : 32 < l.length
  ·have HR : Hid (V.okR n l = false) := zs8 (by rw [HF.out, decide_eq_false (show ¬ l.length ≤ 32 by omega), Bool.false_and, Bool.and_false])
   exact zul
  ·have h32' : l.length ≤ 32 := by omega
   have HF2 : Hid (V.okR n l = (l.all (V.zl n) && V.ordB n l)) := zs8 (by rw [HF.out, HSC.out, decide_eq_true h32']; rfl)
   have hz0 : w.heap.size < (w.alloc (.cells #[.int .i64 n, .slice va l.length vc] 48)).heap.size := by simp
   go_enter Tryz.func110, Tryz.ntmps110
   go_wp2_with fail
   generalize w.alloc (.cells #[.int .i64 n, .slice va l.length vc] 48) = w0 at *
   refine (zck n w0).mono ?_
   rintro e w' ⟨rfl, rfl⟩
   rw [HSC.out]
   go_wp2
   go_loopw [3] (fun iv wx => ∃ k : Nat, k ≤ l.length /\ iv = .int .i64 k /\ (l.take k).all (V.zl n) = true /\ Below w0.heap.size w0 wx) (fun iv _ => l.length - (intOf iv).toNat)
   case atStart => exact ⟨0, Nat.zero_le _, rfl, rfl, ztb _ _⟩
   case round =>
    obtain ⟨k, hk, rfl, hz, hbx⟩ := hrel
    have HZ := zs8 hz
    have HBX := zs8 hbx
    have HBF := zs9 HB0 hbx
    have d0 := (hbx.cell (p := ⟨w.heap.size, 0, none⟩) hz0).trans c0
    have d1 := (hbx.cell (p := ⟨w.heap.size, 1, none⟩) hz0).trans c1
    clear hz hbx
    by_cases hlt : k < l.length
    ·obtain ⟨b, off, rfl, hb0, hx⟩ := HV.out.at k hlt
     obtain ⟨h0, h1, h2, h3⟩ := hx.below hb0 HBF.out
     have hi1 : (0 : Int) ≤ (k : Int) := by omega
     have hi2 : (k : Int) < (l.length : Int) := by omega
     have hlens := HS.out _ (List.getElem_mem hlt)
     have HBD : Hid (V.zl n l[k] = (V.ji n l[k].lo l[k].lk && V.ji n l[k].hi l[k].hk)) := zs8 rfl
     have HYES := zs8 (fun hb => zmw (n := n) HZ.out hlt hb)
     have HNO := zs8 (fun hb => bnd_no (n := n) hlt hb)
     clear hx
     generalize l[k] = x at *
     have hbA : Below wr.heap.size wr (wr.alloc (.cells #[.string ⟨x.lo.toArray⟩, .int .i64 x.lk, .string ⟨x.hi.toArray⟩, .int .i64 x.hk] 120)) := (ztb _ wr).alloc (zta _) _
     have HM1 := zs8 ((HM.out.below HBX.out).below hbA)
     have HBA := zs9 HBX hbA
     have e0 := za hbA d0
     have hx4 : zbr (wr.alloc (.cells #[.string ⟨x.lo.toArray⟩, .int .i64 x.lk, .string ⟨x.hi.toArray⟩, .int .i64 x.hk] 120)) wr.heap.size 0 x := by
      refine ⟨?_, ?_, ?_, ?_⟩ <;> simp [zd]
     have HX4 := zs8 hx4
     clear hbA hx4
     go_wp2_with fail
     generalize wr.alloc (.cells #[.string ⟨x.lo.toArray⟩, .int .i64 x.lk, .string ⟨x.hi.toArray⟩, .int .i64 x.hk] 120) = W1 at *
     obtain ⟨f0, f1, f2, f3⟩ := HX4.out
     rw [Nat.zero_add] at f1 f2 f3
     clear h0 h1 h2 h3 d0 d1
     refine (zf4 n x.lo x.lk W1 HM1.out hlens.1).mono ?_
     rintro e W2 ⟨rfl, hb2⟩
     have k0 := za hb2 e0
     have k2 := za hb2 f2
     have k3 := za hb2 f3
     have HB2 := zs9 HBA hb2
     have HM2 := zs8 (HM1.out.below hb2)
     clear hb2 e0 f0 f1 f2 f3
     rcases hlo : V.ji n x.lo x.lk with _ | _
     ·exact zvp
     ·have HLO := zs8 hlo
      clear hlo
      go_wp2_with fail
      refine (zf4 n x.hi x.hk W2 HM2.out hlens.2).mono ?_
      exact zt7
    ·obtain rfl : k = l.length := by omega
     have HALL : Hid (∀ x ∈ l, V.zl n x = true) := zs8 (by have := HZ.out; rw [List.take_length] at this; exact List.all_eq_true.1 this)
     have HF3 : Hid (V.okR n l = V.ordB n l) := zs8 (by rw [HF2.out, List.all_eq_true.2 HALL.out]; rfl)
     have HMW := zs8 (HM.out.below HBX.out)
     have hzW : w.heap.size < wr.heap.size := Nat.lt_of_lt_of_le hz0 HBX.out.size
     have HD := zs8 (And.intro d0 d1)
     obtain ⟨wo, hwo⟩ : ∃ wo : World, wo = wr := ⟨_, rfl⟩
     subst hwo
     go_wp2
     clear d0 d1
     go_loopw [5] (fun iv wx => ∃ k : Nat, k ≤ l.length /\ iv = .int .i64 k /\ (∀ i, i < k -> V.okAt n l i = true) /\ Below wo.heap.size wo wx) (fun iv _ => l.length - (intOf iv).toNat)
     case atStart => exact ⟨0, Nat.zero_le _, rfl, fun i hi => by omega, ztb _ _⟩
     case round =>
      obtain ⟨k, hk, rfl, hz, hbx⟩ := hrel
      have HZ := zs8 hz
      have HBX := zs8 hbx
      have HBG := zs9 HBF hbx
      have d0 := (hbx.cell (p := ⟨w.heap.size, 0, none⟩) hzW).trans HD.out.1
      have d1 := (hbx.cell (p := ⟨w.heap.size, 1, none⟩) hzW).trans HD.out.2
      clear hz hbx
      by_cases hlt : k < l.length
      ·obtain ⟨b, off, rfl, hb0, hx⟩ := HV.out.at k hlt
       obtain ⟨h0, h1, h2, h3⟩ := hx.below hb0 HBG.out
       have hi1 : (0 : Int) ≤ (k : Int) := by omega
       have hi2 : (k : Int) < (l.length : Int) := by omega
       have HBK : Hid (V.zl n l[k] = true) := zs8 (HALL.out _ (List.getElem_mem hlt))
       have HG := zs8 (zgs hlt)
       clear hx
       generalize l[k] = x at *
       have hbA : Below wr.heap.size wr (wr.alloc (.cells #[.string ⟨x.lo.toArray⟩, .int .i64 x.lk, .string ⟨x.hi.toArray⟩, .int .i64 x.hk] 120)) := (ztb _ wr).alloc (zta _) _
       have HM1 := zs8 ((HMW.out.below HBX.out).below hbA)
       have HBA := zs9 HBG hbA
       have HBAW := zs9 HBX hbA
       have e0 := za hbA d0
       have e1 := za hbA d1
       have hx4 : zbr (wr.alloc (.cells #[.string ⟨x.lo.toArray⟩, .int .i64 x.lk, .string ⟨x.hi.toArray⟩, .int .i64 x.hk] 120)) wr.heap.size 0 x := by
        refine ⟨?_, ?_, ?_, ?_⟩ <;> simp [zd]
       have HX4 := zs8 hx4
       clear hbA hx4
       go_wp2_with fail
       generalize wr.alloc (.cells #[.string ⟨x.lo.toArray⟩, .int .i64 x.lk, .string ⟨x.hi.toArray⟩, .int .i64 x.hk] 120) = W1 at *
       obtain ⟨f0, f1, f2, f3⟩ := HX4.out
       rw [Nat.zero_add] at f1 f2 f3
       clear h0 h1 h2 h3 d0 d1
       obtain ⟨z, hz⟩ : ∃ z, z = V.ecmp n (V.eLow x) (V.vu x) := ⟨_, rfl⟩
       have HIN : Hid (V.xm n x = decide (z < 0)) := zs8 (by rw [hz]; exact (V.zop HBK.out).symm)
       have hc1 := zc8 n (V.eLow x) (V.vu x)
       rw [← hz] at hc1
       have HC1 := zs8 hc1
       clear hz hc1
       have HOK0 : Hid (V.okAt n l k = (decide (z < 0) && (decide (k = 0) || V.ub n (l.getD (k - 1) V.noI) x))) := zs8 (by unfold V.okAt; rw [HG.out, HIN.out])
       by_cases hz0 : 0 ≤ z
       ·have HNO : Hid (V.ordB n l = false) := zs8 (ze8 hlt (by rw [HOK0.out, decide_eq_false (show ¬ z < 0 by omega)]; rfl))
        have hd : decide (0 ≤ z) = true := decide_eq_true hz0
        clear hz0
        refine wp_region_held_drew (S := (fun W' => zk W' /\ W'.cell? ⟨w.heap.size, 0, none⟩ = some (.int .i64 n) /\ W'.cell? ⟨w.heap.size, 1, none⟩ = some (.slice (some ⟨b, off, none⟩) l.length vc) /\ W'.cell? ⟨wr.heap.size, 0, none⟩ = some (.string ⟨x.lo.toArray⟩) /\ W'.cell? ⟨wr.heap.size, 1, none⟩ = some (.int .i64 x.lk) /\ W'.cell? ⟨wr.heap.size, 2, none⟩ = some (.string ⟨x.hi.toArray⟩) /\ W'.cell? ⟨wr.heap.size, 3, none⟩ = some (.int .i64 x.hk))) (by kernel_rfl) (by (try dsimp only); (try simp only [World.cell?_drew]); exact ⟨HM1.out.below (ztb _ _).drew, e0, e1, f0, f1, f2, f3⟩) (fun hHeld => ?_)
        refine tk 0 ?_
        refine tk 1 ?_
        refine tk 2 ?_
        refine tk 4 ?_
        refine rd 3 fun K hK => ?_
        go_simp
        refine (zcx x _).mono ?_
        rintro e wc3 ⟨rfl, hbc3⟩
        try dsimp only
        refine hK.out _ _ ?_ (fun hHeld => ?_)
        ·exact zwv
        clear hK K
        try simp only [zs3, zs4, zs5, Act.put, zs6, List.set_cons_succ, List.set_cons_zero]
        refine rd 5 fun K hK => ?_
        go_simp
        refine (zbn x _).mono ?_
        rintro e wc5 ⟨rfl, hbc5⟩
        try dsimp only
        refine hK.out _ _ ?_ (fun hHeld => ?_)
        ·exact zwu
        clear hK K
        try simp only [zs3, zs4, zs5, Act.put, zs6, List.set_cons_succ, List.set_cons_zero]
        refine rd 6 fun K hK => ?_
        go_simp
        refine (HC1.out _ (by first | assumption | exact And.left (by assumption)) HSC.out (V.zgo HBK.out) (V.zdx HBK.out)).mono ?_
        rintro e wc6 ⟨rfl, hbc6⟩
        try dsimp only
        refine hK.out _ _ ?_ (fun hHeld => ?_)
        ·exact zwt
        clear hK K
        try simp only [zs3, zs4, zs5, Act.put, zs6, List.set_cons_succ, List.set_cons_zero]
        refine tk 7 ?_
        refine tk 8 ?_
        refine tu 9 ?_
        refine tu 10 ?_
        refine tu 11 ?_
        refine tu 12 ?_
        refine tu 13 ?_
        refine tu 14 ?_
        refine tu 15 ?_
        refine tu 16 ?_
        refine tu 17 ?_
        refine tu 18 ?_
        refine tu 19 ?_
        refine tu 20 ?_
        refine tu 21 ?_
        refine tu 22 ?_
        refine tu 23 ?_
        refine tu 24 ?_
        refine tu 25 ?_
        refine tk 26 ?_
        refine wpAnyH_done (by kernel_rfl) ?_ _
        have hbz1 : Below W1.heap.size W1 wc6 := ((((ztb W1.heap.size W1).drew).trans (show Below W1.heap.size W1.drew wc3 from hbc3)).trans (hbc5.mono (show W1.heap.size ≤ wc3.heap.size from hbc3.size))).trans (hbc6.mono (Nat.le_trans (show W1.heap.size ≤ wc3.heap.size from hbc3.size) hbc5.size))
        have HBZ := zs9 HBA hbz1
        clear hbz1
        clear hbc3 hbc5 hbc6 hHeld
        go_wp2
        go_ret
        exact ⟨zc (by rw [HF3.out, HNO.out]), HBZ.out⟩
       ·have hd : decide (0 ≤ z) = false := decide_eq_false hz0
        have HOK1 : Hid (V.okAt n l k = (decide (k = 0) || V.ub n (l.getD (k - 1) V.noI) x)) := zs8 (by rw [HOK0.out, decide_eq_true (show z < 0 by omega)]; rfl)
        clear hz0
        by_cases hk0 : k = 0
        ·have HOK : Hid (∀ i, i < k + 1 -> V.okAt n l i = true) := zs8 (zcv HZ.out (by rw [HOK1.out, decide_eq_true hk0]; rfl))
         have hkd : decide ((0 : Int) < (k : Int)) = false := decide_eq_false (by omega)
         have hkn : decide (0 < k) = false := decide_eq_false (by omega)
         clear hk0
         refine wp_region_held_drew (S := (fun W' => zk W' /\ W'.cell? ⟨w.heap.size, 0, none⟩ = some (.int .i64 n) /\ W'.cell? ⟨w.heap.size, 1, none⟩ = some (.slice (some ⟨b, off, none⟩) l.length vc) /\ W'.cell? ⟨wr.heap.size, 0, none⟩ = some (.string ⟨x.lo.toArray⟩) /\ W'.cell? ⟨wr.heap.size, 1, none⟩ = some (.int .i64 x.lk) /\ W'.cell? ⟨wr.heap.size, 2, none⟩ = some (.string ⟨x.hi.toArray⟩) /\ W'.cell? ⟨wr.heap.size, 3, none⟩ = some (.int .i64 x.hk))) (by kernel_rfl) (by (try dsimp only); (try simp only [World.cell?_drew]); exact ⟨HM1.out.below (ztb _ _).drew, e0, e1, f0, f1, f2, f3⟩) (fun hHeld => ?_)
         refine tk 0 ?_
         refine tk 1 ?_
         refine tk 2 ?_
         refine tk 4 ?_
         refine rd 3 fun K hK => ?_
         go_simp
         refine (zcx x _).mono ?_
         rintro e wc3 ⟨rfl, hbc3⟩
         try dsimp only
         refine hK.out _ _ ?_ (fun hHeld => ?_)
         ·exact zwv
         clear hK K
         try simp only [zs3, zs4, zs5, Act.put, zs6, List.set_cons_succ, List.set_cons_zero]
         refine rd 5 fun K hK => ?_
         go_simp
         refine (zbn x _).mono ?_
         rintro e wc5 ⟨rfl, hbc5⟩
         try dsimp only
         refine hK.out _ _ ?_ (fun hHeld => ?_)
         ·exact zwu
         clear hK K
         try simp only [zs3, zs4, zs5, Act.put, zs6, List.set_cons_succ, List.set_cons_zero]
         refine rd 6 fun K hK => ?_
         go_simp
         refine (HC1.out _ (by first | assumption | exact And.left (by assumption)) HSC.out (V.zgo HBK.out) (V.zdx HBK.out)).mono ?_
         rintro e wc6 ⟨rfl, hbc6⟩
         try dsimp only
         refine hK.out _ _ ?_ (fun hHeld => ?_)
         ·exact zwt
         clear hK K
         try simp only [zs3, zs4, zs5, Act.put, zs6, List.set_cons_succ, List.set_cons_zero]
         refine tk 7 ?_
         refine tk 8 ?_
         refine tk 9 ?_
         refine tk 10 ?_
         refine tk 11 ?_
         refine tu 12 ?_
         refine tu 13 ?_
         refine tu 14 ?_
         refine tu 15 ?_
         refine tu 16 ?_
         refine tu 17 ?_
         refine tu 18 ?_
         refine tu 19 ?_
         refine tu 20 ?_
         refine tu 21 ?_
         refine tu 22 ?_
         refine tu 23 ?_
         refine tu 24 ?_
         refine tk 25 ?_
         refine tk 26 ?_
         refine wpAnyH_done (by kernel_rfl) ?_ _
         have hbz1 : Below W1.heap.size W1 wc6 := ((((ztb W1.heap.size W1).drew).trans (show Below W1.heap.size W1.drew wc3 from hbc3)).trans (hbc5.mono (show W1.heap.size ≤ wc3.heap.size from hbc3.size))).trans (hbc6.mono (Nat.le_trans (show W1.heap.size ≤ wc3.heap.size from hbc3.size) hbc5.size))
         have HBZ := zs9 HBAW hbz1
         clear hbz1
         clear hbc3 hbc5 hbc6 hHeld
         exact zvi
        ·have hkd : decide ((0 : Int) < (k : Int)) = true := decide_eq_true (by omega)
         have hkp : 0 < k := by omega
         have hkn : decide (0 < k) = true := decide_eq_true (by omega)
         have hi3 : (1 : Int) ≤ (k : Int) := by omega
         have hi4 : (k : Int) - 1 < (l.length : Int) := by omega
         have hi5 : (0 : Int) ≤ (k : Int) - 1 := by omega
         have hi6 : IntKind.i64.wrap ((k : Int) - 1) = (k : Int) - 1 := by rw [IntKind.wrap_i64]; omega
         have hi7 : ((k : Int) - 1).toNat = k - 1 := by omega
         have hk1 : k - 1 < l.length := by omega
         obtain ⟨b', off', eb, hb1, hy⟩ := HV.out.at (k - 1) hk1
         cases eb
         obtain ⟨y0, y1, y2, y3⟩ := hy.below hb1 HBA.out
         have HBY : Hid (V.zl n l[k - 1] = true) := zs8 (HALL.out _ (List.getElem_mem hk1))
         have HGY := zs8 (zgs hk1)
         generalize l[k - 1] = y at *
         obtain ⟨z2, hz2⟩ : ∃ z, z = V.ecmp n (V.vu y) (V.eLow x) := ⟨_, rfl⟩
         have HOK2 : Hid (V.okAt n l k = decide (z2 < 0)) := zs8 (by rw [HOK1.out, decide_eq_false hk0, HGY.out, hz2]; exact (V.zr5 HBY.out HBK.out).symm)
         have hc2 := zc8 n (V.vu y) (V.eLow x)
         rw [← hz2] at hc2
         have HC2 := zs8 hc2
         clear hz2 hc2 hy hk0 hb1
         refine wp_region_held_drew (S := (fun W' => zk W' /\ W'.cell? ⟨w.heap.size, 0, none⟩ = some (.int .i64 n) /\ W'.cell? ⟨w.heap.size, 1, none⟩ = some (.slice (some ⟨b, off, none⟩) l.length vc) /\ W'.cell? ⟨wr.heap.size, 0, none⟩ = some (.string ⟨x.lo.toArray⟩) /\ W'.cell? ⟨wr.heap.size, 1, none⟩ = some (.int .i64 x.lk) /\ W'.cell? ⟨wr.heap.size, 2, none⟩ = some (.string ⟨x.hi.toArray⟩) /\ W'.cell? ⟨wr.heap.size, 3, none⟩ = some (.int .i64 x.hk) /\ W'.cell? ⟨b, off + (k - 1) * 4, none⟩ = some (.string ⟨y.lo.toArray⟩) /\ W'.cell? ⟨b, off + (k - 1) * 4 + 1, none⟩ = some (.int .i64 y.lk) /\ W'.cell? ⟨b, off + (k - 1) * 4 + 2, none⟩ = some (.string ⟨y.hi.toArray⟩) /\ W'.cell? ⟨b, off + (k - 1) * 4 + 3, none⟩ = some (.int .i64 y.hk))) (by kernel_rfl) (by (try dsimp only); (try simp only [World.cell?_drew]); exact ⟨HM1.out.below (ztb _ _).drew, e0, e1, f0, f1, f2, f3, y0, y1, y2, y3⟩) (fun hHeld => ?_)
         refine tk 0 ?_
         refine tk 1 ?_
         refine tk 2 ?_
         refine tk 4 ?_
         refine rd 3 fun K hK => ?_
         go_simp
         refine (zcx x _).mono ?_
         rintro e wc3 ⟨rfl, hbc3⟩
         try dsimp only
         refine hK.out _ _ ?_ (fun hHeld => ?_)
         ·(try dsimp only); go_split_ands; exact ⟨zk.below (by assumption) hbc3, zte hbc3, zte hbc3, zte hbc3, zte hbc3, zte hbc3, zte hbc3, zte hbc3, zte hbc3, zte hbc3, zte hbc3⟩
         clear hK K
         try simp only [zs3, zs4, zs5, Act.put, zs6, List.set_cons_succ, List.set_cons_zero]
         refine rd 5 fun K hK => ?_
         go_simp
         refine (zbn x _).mono ?_
         rintro e wc5 ⟨rfl, hbc5⟩
         try dsimp only
         refine hK.out _ _ ?_ (fun hHeld => ?_)
         ·(try dsimp only); go_split_ands; exact ⟨zk.below (by assumption) hbc5, zte hbc5, zte hbc5, zte hbc5, zte hbc5, zte hbc5, zte hbc5, zte hbc5, zte hbc5, zte hbc5, zte hbc5⟩
         clear hK K
         try simp only [zs3, zs4, zs5, Act.put, zs6, List.set_cons_succ, List.set_cons_zero]
         refine rd 6 fun K hK => ?_
         go_simp
         refine (HC1.out _ (by first | assumption | exact And.left (by assumption)) HSC.out (V.zgo HBK.out) (V.zdx HBK.out)).mono ?_
         rintro e wc6 ⟨rfl, hbc6⟩
         try dsimp only
         refine hK.out _ _ ?_ (fun hHeld => ?_)
         ·(try dsimp only); go_split_ands; exact ⟨zk.below (by assumption) hbc6, zte hbc6, zte hbc6, zte hbc6, zte hbc6, zte hbc6, zte hbc6, zte hbc6, zte hbc6, zte hbc6, zte hbc6⟩
         clear hK K
         try simp only [zs3, zs4, zs5, Act.put, zs6, List.set_cons_succ, List.set_cons_zero]
         refine tk 7 ?_
         refine tk 8 ?_
         refine tk 9 ?_
         refine tk 10 ?_
         refine tk 11 ?_
         refine tk 12 ?_
         refine tk 13 ?_
         refine tk 14 ?_
         refine tk 15 ?_
         refine tk 16 ?_
         refine tk 17 ?_
         refine tk 18 ?_
         refine tk 19 ?_
         refine tk 21 ?_
         refine rd 20 fun K hK => ?_
         go_simp
         refine (zbn y _).mono ?_
         rintro e wc20 ⟨rfl, hbc20⟩
         try dsimp only
         refine hK.out _ _ ?_ (fun hHeld => ?_)
         ·(try dsimp only); go_split_ands; exact ⟨zk.below (by assumption) hbc20, zte hbc20, zte hbc20, zte hbc20, zte hbc20, zte hbc20, zte hbc20, zte hbc20, zte hbc20, zte hbc20, zte hbc20⟩
         clear hK K
         try simp only [zs3, zs4, zs5, Act.put, zs6, List.set_cons_succ, List.set_cons_zero]
         refine rd 22 fun K hK => ?_
         go_simp
         refine (zcx x _).mono ?_
         rintro e wc22 ⟨rfl, hbc22⟩
         try dsimp only
         refine hK.out _ _ ?_ (fun hHeld => ?_)
         ·(try dsimp only); go_split_ands; exact ⟨zk.below (by assumption) hbc22, zte hbc22, zte hbc22, zte hbc22, zte hbc22, zte hbc22, zte hbc22, zte hbc22, zte hbc22, zte hbc22, zte hbc22⟩
         clear hK K
         try simp only [zs3, zs4, zs5, Act.put, zs6, List.set_cons_succ, List.set_cons_zero]
         refine rd 23 fun K hK => ?_
         go_simp
         refine (HC2.out _ (by first | assumption | exact And.left (by assumption)) HSC.out (V.zdx HBY.out) (V.zgo HBK.out)).mono ?_
         rintro e wc23 ⟨rfl, hbc23⟩
         try dsimp only
         refine hK.out _ _ ?_ (fun hHeld => ?_)
         ·(try dsimp only); go_split_ands; exact ⟨zk.below (by assumption) hbc23, zte hbc23, zte hbc23, zte hbc23, zte hbc23, zte hbc23, zte hbc23, zte hbc23, zte hbc23, zte hbc23, zte hbc23⟩
         clear hK K
         try simp only [zs3, zs4, zs5, Act.put, zs6, List.set_cons_succ, List.set_cons_zero]
         refine tk 24 ?_
         refine tk 25 ?_
         refine tk 26 ?_
         refine wpAnyH_done (by kernel_rfl) ?_ _
         have hbz1 : Below W1.heap.size W1 wc6 := ((((ztb W1.heap.size W1).drew).trans (show Below W1.heap.size W1.drew wc3 from hbc3)).trans (hbc5.mono (show W1.heap.size ≤ wc3.heap.size from hbc3.size))).trans (hbc6.mono (Nat.le_trans (show W1.heap.size ≤ wc3.heap.size from hbc3.size) hbc5.size))
         have hbz2 : Below wc6.heap.size wc6 wc23 := (hbc20.trans (hbc22.mono hbc20.size)).trans (hbc23.mono (Nat.le_trans hbc20.size hbc22.size))
         have HBZ := zs8 (HBAW.out.trans ((hbz1.trans (hbz2.mono hbz1.size)).mono HBAW.out.size))
         have HBZ0 := zs8 (HBA.out.trans ((hbz1.trans (hbz2.mono hbz1.size)).mono HBA.out.size))
         clear hbc3 hbc5 hbc6 hbc20 hbc22 hbc23 hHeld hbz1 hbz2
         by_cases hz2 : 0 ≤ z2
         ·have HNO : Hid (V.ordB n l = false) := zs8 (ze8 hlt (by rw [HOK2.out]; exact decide_eq_false (by omega)))
          go_wp2
          go_ret
          exact ⟨zc (by rw [HF3.out, HNO.out]), HBZ0.out⟩
         ·have HOK : Hid (∀ i, i < k + 1 -> V.okAt n l i = true) := zs8 (zcv HZ.out (by rw [HOK2.out]; exact decide_eq_true (by omega)))
          exact zvi
      ·obtain rfl : k = l.length := by omega
       have HR : Hid (V.okR n l = true) := zs8 (by rw [HF3.out]; exact (V.zay n l).2 HZ.out)
       go_wp2
       go_ret
       exact ⟨zc HR.out.symm, HBG.out⟩
end Go.Proofs.YtnhfaincdabdkaaGreatDoor

/-
  Lemmas for the law.
-/
import Derived.Test.YtbikeahmldobkaaGreatDoorC41x25
import Derived.Test.YtbikeahmldobkaaGreatDoorC41x30
set_option linter.all false
set_option maxRecDepth 100000
set_option maxHeartbeats 12800000
namespace Go.Proofs.YtbikeahmldobkaaGreatDoor
open Go.RowKit
theorem zpk {P : Prop} (h : P := by
 go_wp2_with fail
 refine (kd n ⟨s.toArray⟩ ⟨x.hi.toArray⟩ W2 HM1o.out HOKS.out.sch HVS.out (show V.valid n (ByteArray.mk x.hi.toArray).data.toList = true by rw [ja]; exact V.jd HBK.out (by simpa using hkhk))).mono ?_
 rintro e W2h ⟨rfl, hbo⟩
 rw [ja, ja]
 replace m0 := ze hbo m0
 replace f0 := ze hbo f0
 replace f1 := ze hbo f1
 replace f2 := ze hbo f2
 replace f3 := ze hbo f3
 have HBAoo := zpb HBAo hbo
 have HM1oo := zpa (HM1o.out.below hbo)
 clear hbo
 obtain ⟨zb, hzb⟩ : ∃ z, z = V.cmpV n s x.hi := ⟨_, rfl⟩
 rw [← hzb] at HBLF ⊢
 clear hzb
 have HBLF2 : Hid (V.qd n s x = (decide (zb < 0) || (decide (zb = 0) && decide (x.hk = 1)))) := zpa (by rw [HBLF.out, decide_eq_false (show ¬ x.hk = 0 by simpa using hkhk), Bool.false_or])
 rcases Int.lt_trichotomy zb 0 with hc | hc | hc
 ·have zba : decide (zb < 0) = true := decide_eq_true hc
  have zbb : (zb == 0) = false := by rw [zpe]; omega
  have HBB : Hid (V.qd n s x = true) := zpa (by rw [HBLF2.out, zba, decide_eq_false (show ¬ zb = 0 by omega)]; rfl)
  clear hc
  have HR : Hid (V.zr n l s = true) := zpa (by rw [HF2.out]; exact HNO.out (by rw [HAB.out, HBB.out]; rfl))
  go_wp2
  go_ret
  exact ⟨zf HR.out.symm, HB2.out.trans (HBAoo.out.mono HB2.out.size)⟩
 ·subst hc
  rcases hqhk : (x.hk == 1) with _ | _
  ·have HBB : Hid (V.qd n s x = false) := zpa (by rw [HBLF2.out, decide_eq_false (show ¬ x.hk = 1 by simpa using hqhk)]; rfl)
   have HY := zpa (HYES.out (by rw [HAB.out, HBB.out]; rfl))
   go_wp2
   go_roundw
   case rel => exact ⟨k + 1, by omega, by go_num, HY.out, HBAoo.out⟩
   case measure => simp [intOf]; omega
  ·have HBB : Hid (V.qd n s x = true) := zpa (by rw [HBLF2.out, decide_eq_true (eq_of_beq hqhk)]; rfl)
   have HR : Hid (V.zr n l s = true) := zpa (by rw [HF2.out]; exact HNO.out (by rw [HAB.out, HBB.out]; rfl))
   go_wp2
   go_ret
   exact ⟨zf HR.out.symm, HB2.out.trans (HBAoo.out.mono HB2.out.size)⟩
 ·have zba : decide (zb < 0) = false := decide_eq_false (by omega)
  have zbb : (zb == 0) = false := by rw [zpe]; omega
  have HBB : Hid (V.qd n s x = false) := zpa (by rw [HBLF2.out, zba, decide_eq_false (show ¬ zb = 0 by omega)]; rfl)
  clear hc
  have HY := zpa (HYES.out (by rw [HAB.out, HBB.out]; rfl))
  go_wp2
  go_roundw
  case rel => exact ⟨k + 1, by omega, by go_num, HY.out, HBAoo.out⟩
  case measure => simp [intOf]; omega) : P := h
theorem zpl {P : Prop} (h : P := by
 go_wp2_with fail
 refine (kd n ⟨s.toArray⟩ ⟨x.hi.toArray⟩ W2 HM1o.out HOKS.out.sch HVS.out (show V.valid n (ByteArray.mk x.hi.toArray).data.toList = true by rw [ja]; exact V.jd HBK.out (by simpa using hkhk))).mono ?_
 rintro e W2h ⟨rfl, hbo⟩
 rw [ja, ja]
 replace m0 := ze hbo m0
 replace f0 := ze hbo f0
 replace f1 := ze hbo f1
 replace f2 := ze hbo f2
 replace f3 := ze hbo f3
 have HBAoo := zpb HBAo hbo
 have HM1oo := zpa (HM1o.out.below hbo)
 clear hbo
 obtain ⟨zb, hzb⟩ : ∃ z, z = V.cmpV n s x.hi := ⟨_, rfl⟩
 rw [← hzb] at HBLF ⊢
 clear hzb
 have HBLF2 : Hid (V.qd n s x = (decide (zb < 0) || (decide (zb = 0) && decide (x.hk = 1)))) := zpa (by rw [HBLF.out, decide_eq_false (show ¬ x.hk = 0 by simpa using hkhk), Bool.false_or])
 rcases Int.lt_trichotomy zb 0 with hc | hc | hc
 ·have zba : decide (zb < 0) = true := decide_eq_true hc
  have zbb : (zb == 0) = false := by rw [zpe]; omega
  have HBB : Hid (V.qd n s x = true) := zpa (by rw [HBLF2.out, zba, decide_eq_false (show ¬ zb = 0 by omega)]; rfl)
  clear hc
  have HY := zpa (HYES.out (by rw [HAB.out, HBB.out]; rfl))
  go_wp2
  go_roundw
  case rel => exact ⟨k + 1, by omega, by go_num, HY.out, HBAoo.out⟩
  case measure => simp [intOf]; omega
 ·subst hc
  rcases hqhk : (x.hk == 1) with _ | _
  ·have HBB : Hid (V.qd n s x = false) := zpa (by rw [HBLF2.out, decide_eq_false (show ¬ x.hk = 1 by simpa using hqhk)]; rfl)
   have HY := zpa (HYES.out (by rw [HAB.out, HBB.out]; rfl))
   go_wp2
   go_roundw
   case rel => exact ⟨k + 1, by omega, by go_num, HY.out, HBAoo.out⟩
   case measure => simp [intOf]; omega
  ·have HBB : Hid (V.qd n s x = true) := zpa (by rw [HBLF2.out, decide_eq_true (eq_of_beq hqhk)]; rfl)
   have HY := zpa (HYES.out (by rw [HAB.out, HBB.out]; rfl))
   go_wp2
   go_roundw
   case rel => exact ⟨k + 1, by omega, by go_num, HY.out, HBAoo.out⟩
   case measure => simp [intOf]; omega
 ·have zba : decide (zb < 0) = false := decide_eq_false (by omega)
  have zbb : (zb == 0) = false := by rw [zpe]; omega
  have HBB : Hid (V.qd n s x = false) := zpa (by rw [HBLF2.out, zba, decide_eq_false (show ¬ zb = 0 by omega)]; rfl)
  clear hc
  have HY := zpa (HYES.out (by rw [HAB.out, HBB.out]; rfl))
  go_wp2
  go_roundw
  case rel => exact ⟨k + 1, by omega, by go_num, HY.out, HBAoo.out⟩
  case measure => simp [intOf]; omega) : P := h
theorem zp0 {P : Prop} (h : P := by
 have HR : Hid (V.zr n l s = true) := zpa (by rw [HF2.out]; exact HNO.out (by rw [HAB.out, HBB.out]; rfl))
 go_wp2
 go_ret
 exact ⟨zf HR.out.symm, HB2.out.trans (HBAo.out.mono HB2.out.size)⟩) : P := h
theorem zp2 {P : Prop} (h : P := by
 have HY := zpa (HYES.out (by rw [HAB.out, HBB.out]; rfl))
 go_wp2
 go_roundw
 case rel => exact ⟨k + 1, by omega, by go_num, HY.out, HBAo.out⟩
 case measure => simp [intOf]; omega) : P := h
theorem zex (n : Int) (v : Value) (l : List V.Itv) (s : V.Bs) (w : World) (hm : zm w) (hv : Itvs w v l) (hs : Lens l) (hl : l.length ≤ maxLen) (hsl : s.length ≤ maxLen) :
  Calls Tryz.prog 56 #[setV n v, .string ⟨s.toArray⟩] w fun e w' => e = .returned (.bool (V.zr n l s)) /\ Below w.heap.size w w' := by
 have HV := zpa hv
 obtain ⟨va, vc, rfl⟩ := hv.slice
 have HL := zpa hl
 have HSL := zpa (show (ByteArray.mk s.toArray).size ≤ maxLen by simpa [ByteArray.size] using hsl)
 unfold maxLen at hl
 have HS := zpa hs
 have HF : Hid (V.zr n l s = (V.okR n l && (V.valid n s && V.hasL n l s))) := zpa rfl
 have hb0 : Below w.heap.size w (w.alloc (.cells #[.int .i64 n, .slice va l.length vc] 68)) := (zpd _ w).alloc (zpc _) _
 have HB0 := zpa hb0
 have HM := zpa (hm.below hb0)
 have c0 : (w.alloc (.cells #[.int .i64 n, .slice va l.length vc] 68)).cell? ⟨w.heap.size, 0, none⟩ = some (.int .i64 n) := by simp [zj]
 have c1 : (w.alloc (.cells #[.int .i64 n, .slice va l.length vc] 68)).cell? ⟨w.heap.size, 1, none⟩ = some (.slice va l.length vc) := by simp [zj]
 have hz0 : w.heap.size < (w.alloc (.cells #[.int .i64 n, .slice va l.length vc] 68)).heap.size := by simp
 clear hv hs hb0 hm hsl
 unfold setV
 go_enter Tryz.func56, Tryz.ntmps56
 go_wp2_with fail
 generalize w.alloc (.cells #[.int .i64 n, .slice va l.length vc] 68) = w0 at *
 refine (zde n (.slice va l.length vc) l w0 HM.out (HV.out.below HB0.out) HS.out HL.out).mono ?_
 rintro e w1 ⟨rfl, hb1⟩
 have HB1 := zpb HB0 hb1
 have HM1 := zpa (HM.out.below hb1)
 have d0 := ze hb1 c0
 have d1 := ze hb1 c1
 have hz1 : w.heap.size < w1.heap.size := Nat.lt_of_lt_of_le hz0 hb1.size
 clear hb1 c0 c1 hz0 HM
 rcases hok : V.okR n l with _ | _
 ·have HR : Hid (V.zr n l s = false) := zpa (by rw [HF.out, hok]; rfl)
  clear hok
  exact zrk
 ·have HOK := zpa hok
  clear hok
  go_wp2_with fail
  refine (zb1 n ⟨s.toArray⟩ w1 HM1.out HSL.out).mono ?_
  rintro e w2 ⟨rfl, hb2⟩
  rw [ja]
  have HB2 := zpb HB1 hb2
  have HM2 := zpa (HM1.out.below hb2)
  have e0 := ze hb2 d0
  have e1 := ze hb2 d1
  clear hb2 d0 d1 hz1 HM1
  rcases hva : V.valid n s with _ | _
  ·exact zrq
  ·have HVA := zpa hva
   have HOKS := zpa (V.ok_of HOK.out)
   have HF2 : Hid (V.zr n l s = l.any (fun x => V.js n s x && V.qd n s x)) := zpa (by rw [HF.out, HOK.out, hva, ← V.zoe HOKS.out.sch HOKS.out.bnd hva]; rfl)
   have HVS := zpa (show V.valid n (ByteArray.mk s.toArray).data.toList = true by rw [ja]; exact hva)
   clear hva
   have HE := zpa (And.intro e0 e1)
   go_wp2_with fail
   clear e0 e1
   go_loopw [5] (fun iv wx => ∃ k : Nat, k ≤ l.length /\ iv = .int .i64 k /\ (l.take k).any (fun x => V.js n s x && V.qd n s x) = false /\ Below w2.heap.size w2 wx) (fun iv _ => l.length - (intOf iv).toNat)
   case atStart => exact ⟨0, Nat.zero_le _, rfl, rfl, zpd _ _⟩
   case round =>
    obtain ⟨k, hk, rfl, hz, hbx⟩ := hrel
    have HZ := zpa hz
    have HBX := zpa hbx
    have HBF := zpb HB2 hbx
    have d0 := ze hbx HE.out.1
    have d1 := ze hbx HE.out.2
    clear hz hbx
    by_cases hlt : k < l.length
    ·obtain ⟨b, off, rfl, hb0, hx⟩ := HV.out.at k hlt
     obtain ⟨h0, h1, h2, h3⟩ := hx.below hb0 HBF.out
     have hi1 : (0 : Int) ≤ (k : Int) := by omega
     have hi2 : (k : Int) < (l.length : Int) := by omega
     have HBK : Hid (V.zu n l[k] = true) := zpa (HOKS.out.bnd _ (List.getElem_mem hlt))
     have HYES := zpa (fun hb => zkz (p := fun x => V.js n s x && V.qd n s x) HZ.out hlt hb)
     have HNO := zpa (fun hb => znj (p := fun x => V.js n s x && V.qd n s x) hlt hb)
     clear hx
     generalize l[k] = x at *
     have HAF : Hid (V.js n s x = (decide (x.lk = 0) || (decide (0 < V.cmpV n s x.lo) || (decide (V.cmpV n s x.lo = 0) && decide (x.lk = 1))))) := zpa rfl
     have HBLF : Hid (V.qd n s x = (decide (x.hk = 0) || (decide (V.cmpV n s x.hi < 0) || (decide (V.cmpV n s x.hi = 0) && decide (x.hk = 1))))) := zpa rfl
     have hbA : Below wr.heap.size wr (wr.alloc (.cells #[.string ⟨x.lo.toArray⟩, .int .i64 x.lk, .string ⟨x.hi.toArray⟩, .int .i64 x.hk] 83)) := (zpd _ wr).alloc (zpc _) _
     have HM1 := zpa ((HM2.out.below HBX.out).below hbA)
     have HBA := zpb HBX hbA
     have m0 := ze hbA d0
     have hx4 : ws (wr.alloc (.cells #[.string ⟨x.lo.toArray⟩, .int .i64 x.lk, .string ⟨x.hi.toArray⟩, .int .i64 x.hk] 83)) wr.heap.size 0 x := by
      refine ⟨?_, ?_, ?_, ?_⟩ <;> simp [zj]
     have HX4 := zpa hx4
     clear hbA hx4
     rcases hklk : (x.lk == 0) with _ | _
     ·have hnlk : (x.lk != 0) = true := by simpa using hklk
      rcases hkhk : (x.hk == 0) with _ | _
      ·have hnhk : (x.hk != 0) = true := by simpa using hkhk
       go_wp2_with fail
       generalize wr.alloc (.cells #[.string ⟨x.lo.toArray⟩, .int .i64 x.lk, .string ⟨x.hi.toArray⟩, .int .i64 x.hk] 83) = W1 at *
       obtain ⟨f0, f1, f2, f3⟩ := HX4.out
       rw [Nat.zero_add] at f1 f2 f3
       clear h0 h1 h2 h3 d0 d1
       refine (kd n ⟨s.toArray⟩ ⟨x.lo.toArray⟩ W1 HM1.out HOKS.out.sch HVS.out (show V.valid n (ByteArray.mk x.lo.toArray).data.toList = true by rw [ja]; exact V.yu HBK.out (by simpa using hklk))).mono ?_
       rintro e W2 ⟨rfl, hbo⟩
       rw [ja, ja]
       replace m0 := ze hbo m0
       replace f0 := ze hbo f0
       replace f1 := ze hbo f1
       replace f2 := ze hbo f2
       replace f3 := ze hbo f3
       have HBAo := zpb HBA hbo
       have HM1o := zpa (HM1.out.below hbo)
       clear hbo
       obtain ⟨za, hza⟩ : ∃ z, z = V.cmpV n s x.lo := ⟨_, rfl⟩
       rw [← hza] at HAF ⊢
       clear hza
       have HAF2 : Hid (V.js n s x = (decide (0 < za) || (decide (za = 0) && decide (x.lk = 1)))) := zpa (by rw [HAF.out, decide_eq_false (show ¬ x.lk = 0 by simpa using hklk), Bool.false_or])
       rcases Int.lt_trichotomy za 0 with hc | hc | hc
       ·have zaa : decide (0 < za) = false := decide_eq_false (by omega)
        have zab : (za == 0) = false := by rw [zpe]; omega
        have HAB : Hid (V.js n s x = false) := zpa (by rw [HAF2.out, zaa, decide_eq_false (show ¬ za = 0 by omega)]; rfl)
        clear hc
        exact zpl
       ·subst hc
        rcases hqlk : (x.lk == 1) with _ | _
        ·have HAB : Hid (V.js n s x = false) := zpa (by rw [HAF2.out, decide_eq_false (show ¬ x.lk = 1 by simpa using hqlk)]; rfl)
         exact zpl
        ·have HAB : Hid (V.js n s x = true) := zpa (by rw [HAF2.out, decide_eq_true (eq_of_beq hqlk)]; rfl)
         exact zpk
       ·have zaa : decide (0 < za) = true := decide_eq_true hc
        have zab : (za == 0) = false := by rw [zpe]; omega
        have HAB : Hid (V.js n s x = true) := zpa (by rw [HAF2.out, zaa, decide_eq_false (show ¬ za = 0 by omega)]; rfl)
        clear hc
        exact zpk
      ·have hnhk : (x.hk != 0) = false := by simpa using hkhk
       have HBB : Hid (V.qd n s x = true) := zpa (by rw [HBLF.out, decide_eq_true (eq_of_beq hkhk)]; rfl)
       go_wp2_with fail
       generalize wr.alloc (.cells #[.string ⟨x.lo.toArray⟩, .int .i64 x.lk, .string ⟨x.hi.toArray⟩, .int .i64 x.hk] 83) = W1 at *
       obtain ⟨f0, f1, f2, f3⟩ := HX4.out
       rw [Nat.zero_add] at f1 f2 f3
       clear h0 h1 h2 h3 d0 d1
       refine (kd n ⟨s.toArray⟩ ⟨x.lo.toArray⟩ W1 HM1.out HOKS.out.sch HVS.out (show V.valid n (ByteArray.mk x.lo.toArray).data.toList = true by rw [ja]; exact V.yu HBK.out (by simpa using hklk))).mono ?_
       rintro e W2 ⟨rfl, hbo⟩
       rw [ja, ja]
       replace m0 := ze hbo m0
       replace f0 := ze hbo f0
       replace f1 := ze hbo f1
       replace f2 := ze hbo f2
       replace f3 := ze hbo f3
       have HBAo := zpb HBA hbo
       have HM1o := zpa (HM1.out.below hbo)
       clear hbo
       obtain ⟨za, hza⟩ : ∃ z, z = V.cmpV n s x.lo := ⟨_, rfl⟩
       rw [← hza] at HAF ⊢
       clear hza
       have HAF2 : Hid (V.js n s x = (decide (0 < za) || (decide (za = 0) && decide (x.lk = 1)))) := zpa (by rw [HAF.out, decide_eq_false (show ¬ x.lk = 0 by simpa using hklk), Bool.false_or])
       rcases Int.lt_trichotomy za 0 with hc | hc | hc
       ·have zaa : decide (0 < za) = false := decide_eq_false (by omega)
        have zab : (za == 0) = false := by rw [zpe]; omega
        have HAB : Hid (V.js n s x = false) := zpa (by rw [HAF2.out, zaa, decide_eq_false (show ¬ za = 0 by omega)]; rfl)
        clear hc
        exact zp2
       ·subst hc
        rcases hqlk : (x.lk == 1) with _ | _
        ·have HAB : Hid (V.js n s x = false) := zpa (by rw [HAF2.out, decide_eq_false (show ¬ x.lk = 1 by simpa using hqlk)]; rfl)
         exact zp2
        ·have HAB : Hid (V.js n s x = true) := zpa (by rw [HAF2.out, decide_eq_true (eq_of_beq hqlk)]; rfl)
         exact zp0
       ·have zaa : decide (0 < za) = true := decide_eq_true hc
        have zab : (za == 0) = false := by rw [zpe]; omega
        have HAB : Hid (V.js n s x = true) := zpa (by rw [HAF2.out, zaa, decide_eq_false (show ¬ za = 0 by omega)]; rfl)
        clear hc
        exact zp0
     ·have hnlk : (x.lk != 0) = false := by simpa using hklk
      have HAB : Hid (V.js n s x = true) := zpa (by rw [HAF.out, decide_eq_true (eq_of_beq hklk)]; rfl)
      rcases hkhk : (x.hk == 0) with _ | _
      ·have hnhk : (x.hk != 0) = true := by simpa using hkhk
       go_wp2_with fail
       generalize wr.alloc (.cells #[.string ⟨x.lo.toArray⟩, .int .i64 x.lk, .string ⟨x.hi.toArray⟩, .int .i64 x.hk] 83) = W1 at *
       obtain ⟨f0, f1, f2, f3⟩ := HX4.out
       rw [Nat.zero_add] at f1 f2 f3
       clear h0 h1 h2 h3 d0 d1
       refine (kd n ⟨s.toArray⟩ ⟨x.hi.toArray⟩ W1 HM1.out HOKS.out.sch HVS.out (show V.valid n (ByteArray.mk x.hi.toArray).data.toList = true by rw [ja]; exact V.jd HBK.out (by simpa using hkhk))).mono ?_
       rintro e W1h ⟨rfl, hbo⟩
       rw [ja, ja]
       replace m0 := ze hbo m0
       replace f0 := ze hbo f0
       replace f1 := ze hbo f1
       replace f2 := ze hbo f2
       replace f3 := ze hbo f3
       have HBAo := zpb HBA hbo
       have HM1o := zpa (HM1.out.below hbo)
       clear hbo
       obtain ⟨zb, hzb⟩ : ∃ z, z = V.cmpV n s x.hi := ⟨_, rfl⟩
       rw [← hzb] at HBLF ⊢
       clear hzb
       have HBLF2 : Hid (V.qd n s x = (decide (zb < 0) || (decide (zb = 0) && decide (x.hk = 1)))) := zpa (by rw [HBLF.out, decide_eq_false (show ¬ x.hk = 0 by simpa using hkhk), Bool.false_or])
       rcases Int.lt_trichotomy zb 0 with hc | hc | hc
       ·have zba : decide (zb < 0) = true := decide_eq_true hc
        have zbb : (zb == 0) = false := by rw [zpe]; omega
        have HBB : Hid (V.qd n s x = true) := zpa (by rw [HBLF2.out, zba, decide_eq_false (show ¬ zb = 0 by omega)]; rfl)
        clear hc
        exact zp0
       ·subst hc
        rcases hqhk : (x.hk == 1) with _ | _
        ·have HBB : Hid (V.qd n s x = false) := zpa (by rw [HBLF2.out, decide_eq_false (show ¬ x.hk = 1 by simpa using hqhk)]; rfl)
         exact zp2
        ·have HBB : Hid (V.qd n s x = true) := zpa (by rw [HBLF2.out, decide_eq_true (eq_of_beq hqhk)]; rfl)
         exact zp0
       ·have zba : decide (zb < 0) = false := decide_eq_false (by omega)
        have zbb : (zb == 0) = false := by rw [zpe]; omega
        have HBB : Hid (V.qd n s x = false) := zpa (by rw [HBLF2.out, zba, decide_eq_false (show ¬ zb = 0 by omega)]; rfl)
        clear hc
        exact zp2
      ·have hnhk : (x.hk != 0) = false := by simpa using hkhk
       have HBB : Hid (V.qd n s x = true) := zpa (by rw [HBLF.out, decide_eq_true (eq_of_beq hkhk)]; rfl)
       have HR : Hid (V.zr n l s = true) := zpa (by rw [HF2.out]; exact HNO.out (by rw [HAB.out, HBB.out]; rfl))
       go_wp2
       go_ret
       exact ⟨zf HR.out.symm, HB2.out.trans (HBA.out.mono HB2.out.size)⟩
    ·obtain rfl : k = l.length := by omega
     have HR : Hid (V.zr n l s = false) := zpa (by rw [HF2.out]; have := HZ.out; rwa [List.take_length] at this)
     go_wp2
     go_ret
     exact ⟨zf HR.out.symm, HBF.out⟩
end Go.Proofs.YtbikeahmldobkaaGreatDoor

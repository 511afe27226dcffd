/-
  Lemmas for the law.
-/
import Derived.Test.YtnhfaincdabdkaaGreatDoorC35x21
import Derived.Test.YtnhfaincdabdkaaGreatDoorC35x24
import Derived.Test.YtnhfaincdabdkaaGreatDoorC35x45
import Derived.Test.YtnhfaincdabdkaaGreatDoorC35x43
set_option linter.all false
set_option maxRecDepth 100000
set_option maxHeartbeats 12800000
namespace Go.Proofs.YtnhfaincdabdkaaGreatDoor
open Go.RowKit
theorem zvo {P : Prop} (h : P := by
 go_wp2_with fail
 refine (yg n ⟨s.toArray⟩ ⟨x.hi.toArray⟩ W2 HM1o.out HOKS.out.sch HVS.out (show V.valid n (ByteArray.mk x.hi.toArray).data.toList = true by rw [jh]; exact V.qn HBK.out (by simpa using hkhk))).mono ?_
 rintro e W2h ⟨rfl, hbo⟩
 rw [jh, jh]
 replace m0 := zc hbo m0
 replace f0 := zc hbo f0
 replace f1 := zc hbo f1
 replace f2 := zc hbo f2
 replace f3 := zc hbo f3
 have HBAoo := zvc HBAo hbo
 have HM1oo := zvb (HM1o.out.below hbo)
 clear hbo
 obtain ⟨zb, hzb⟩ : ∃ z, z = V.cmpV n s x.hi := ⟨_, rfl⟩
 rw [← hzb] at HBLF ⊢
 clear hzb
 have HBLF2 : Hid (V.qr n s x = (decide (zb < 0) || (decide (zb = 0) && decide (x.hk = 1)))) := zvb (by rw [HBLF.out, decide_eq_false (show ¬ x.hk = 0 by simpa using hkhk), Bool.false_or])
 rcases Int.lt_trichotomy zb 0 with hc | hc | hc
 ·have zba : decide (zb < 0) = true := decide_eq_true hc
  have zbb : (zb == 0) = false := by rw [zvf]; omega
  have HBB : Hid (V.qr n s x = true) := zvb (by rw [HBLF2.out, zba, decide_eq_false (show ¬ zb = 0 by omega)]; rfl)
  clear hc
  have HR : Hid (V.zu n l s = true) := zvb (by rw [HF2.out]; exact HNO.out (by rw [HAB.out, HBB.out]; rfl))
  go_wp2
  go_ret
  exact ⟨ze HR.out.symm, HB2.out.trans (HBAoo.out.mono HB2.out.size)⟩
 ·subst hc
  rcases hqhk : (x.hk == 1) with _ | _
  ·have HBB : Hid (V.qr n s x = false) := zvb (by rw [HBLF2.out, decide_eq_false (show ¬ x.hk = 1 by simpa using hqhk)]; rfl)
   have HY := zvb (HYES.out (by rw [HAB.out, HBB.out]; rfl))
   go_wp2
   go_roundw
   case rel => exact ⟨k + 1, by omega, by go_num, HY.out, HBAoo.out⟩
   case measure => simp [intOf]; omega
  ·have HBB : Hid (V.qr n s x = true) := zvb (by rw [HBLF2.out, decide_eq_true (eq_of_beq hqhk)]; rfl)
   have HR : Hid (V.zu n l s = true) := zvb (by rw [HF2.out]; exact HNO.out (by rw [HAB.out, HBB.out]; rfl))
   go_wp2
   go_ret
   exact ⟨ze HR.out.symm, HB2.out.trans (HBAoo.out.mono HB2.out.size)⟩
 ·have zba : decide (zb < 0) = false := decide_eq_false (by omega)
  have zbb : (zb == 0) = false := by rw [zvf]; omega
  have HBB : Hid (V.qr n s x = false) := zvb (by rw [HBLF2.out, zba, decide_eq_false (show ¬ zb = 0 by omega)]; rfl)
  clear hc
  have HY := zvb (HYES.out (by rw [HAB.out, HBB.out]; rfl))
  go_wp2
  go_roundw
  case rel => exact ⟨k + 1, by omega, by go_num, HY.out, HBAoo.out⟩
  case measure => simp [intOf]; omega) : P := h
theorem zvp {P : Prop} (h : P := by
 go_wp2_with fail
 refine (yg n ⟨s.toArray⟩ ⟨x.hi.toArray⟩ W2 HM1o.out HOKS.out.sch HVS.out (show V.valid n (ByteArray.mk x.hi.toArray).data.toList = true by rw [jh]; exact V.qn HBK.out (by simpa using hkhk))).mono ?_
 rintro e W2h ⟨rfl, hbo⟩
 rw [jh, jh]
 replace m0 := zc hbo m0
 replace f0 := zc hbo f0
 replace f1 := zc hbo f1
 replace f2 := zc hbo f2
 replace f3 := zc hbo f3
 have HBAoo := zvc HBAo hbo
 have HM1oo := zvb (HM1o.out.below hbo)
 clear hbo
 obtain ⟨zb, hzb⟩ : ∃ z, z = V.cmpV n s x.hi := ⟨_, rfl⟩
 rw [← hzb] at HBLF ⊢
 clear hzb
 have HBLF2 : Hid (V.qr n s x = (decide (zb < 0) || (decide (zb = 0) && decide (x.hk = 1)))) := zvb (by rw [HBLF.out, decide_eq_false (show ¬ x.hk = 0 by simpa using hkhk), Bool.false_or])
 rcases Int.lt_trichotomy zb 0 with hc | hc | hc
 ·have zba : decide (zb < 0) = true := decide_eq_true hc
  have zbb : (zb == 0) = false := by rw [zvf]; omega
  have HBB : Hid (V.qr n s x = true) := zvb (by rw [HBLF2.out, zba, decide_eq_false (show ¬ zb = 0 by omega)]; rfl)
  clear hc
  have HY := zvb (HYES.out (by rw [HAB.out, HBB.out]; rfl))
  go_wp2
  go_roundw
  case rel => exact ⟨k + 1, by omega, by go_num, HY.out, HBAoo.out⟩
  case measure => simp [intOf]; omega
 ·subst hc
  rcases hqhk : (x.hk == 1) with _ | _
  ·have HBB : Hid (V.qr n s x = false) := zvb (by rw [HBLF2.out, decide_eq_false (show ¬ x.hk = 1 by simpa using hqhk)]; rfl)
   have HY := zvb (HYES.out (by rw [HAB.out, HBB.out]; rfl))
   go_wp2
   go_roundw
   case rel => exact ⟨k + 1, by omega, by go_num, HY.out, HBAoo.out⟩
   case measure => simp [intOf]; omega
  ·have HBB : Hid (V.qr n s x = true) := zvb (by rw [HBLF2.out, decide_eq_true (eq_of_beq hqhk)]; rfl)
   have HY := zvb (HYES.out (by rw [HAB.out, HBB.out]; rfl))
   go_wp2
   go_roundw
   case rel => exact ⟨k + 1, by omega, by go_num, HY.out, HBAoo.out⟩
   case measure => simp [intOf]; omega
 ·have zba : decide (zb < 0) = false := decide_eq_false (by omega)
  have zbb : (zb == 0) = false := by rw [zvf]; omega
  have HBB : Hid (V.qr n s x = false) := zvb (by rw [HBLF2.out, zba, decide_eq_false (show ¬ zb = 0 by omega)]; rfl)
  clear hc
  have HY := zvb (HYES.out (by rw [HAB.out, HBB.out]; rfl))
  go_wp2
  go_roundw
  case rel => exact ⟨k + 1, by omega, by go_num, HY.out, HBAoo.out⟩
  case measure => simp [intOf]; omega) : P := h
theorem zwd {P : Prop} (h : P := by
 have HR : Hid (V.zu n l s = true) := zvb (by rw [HF2.out]; exact HNO.out (by rw [HAB.out, HBB.out]; rfl))
 go_wp2
 go_ret
 exact ⟨ze HR.out.symm, HB2.out.trans (HBAo.out.mono HB2.out.size)⟩) : P := h
theorem zwf {P : Prop} (h : P := by
 have HY := zvb (HYES.out (by rw [HAB.out, HBB.out]; rfl))
 go_wp2
 go_roundw
 case rel => exact ⟨k + 1, by omega, by go_num, HY.out, HBAo.out⟩
 case measure => simp [intOf]; omega) : P := h
theorem zi9 (n : Int) (v : Value) (l : List V.Itv) (s : V.Bs) (w : World) (hm : zi w) (hv : Itvs w v l) (hs : Lens l) (hl : l.length ≤ maxLen) (hsl : s.length ≤ maxLen) :
  Calls Tryz.prog 88 #[setV n v, .string ⟨s.toArray⟩] w fun e w' => e = .returned (.bool (V.zu n l s)) /\ Below w.heap.size w w' := by
 have HV := zvb hv
 obtain ⟨va, vc, rfl⟩ := hv.slice
 have HL := zvb hl
 have HSL := zvb (show (ByteArray.mk s.toArray).size ≤ maxLen by simpa [ByteArray.size] using hsl)
 unfold maxLen at hl
 have HS := zvb hs
 have HF : Hid (V.zu n l s = (V.okR n l && (V.valid n s && V.hasL n l s))) := zvb rfl
 have hb0 : Below w.heap.size w (w.alloc (.cells #[.int .i64 n, .slice va l.length vc] 48)) := (zve _ w).alloc (zvd _) _
 have HB0 := zvb hb0
 have HM := zvb (hm.below hb0)
 have c0 : (w.alloc (.cells #[.int .i64 n, .slice va l.length vc] 48)).cell? ⟨w.heap.size, 0, none⟩ = some (.int .i64 n) := by simp [zf]
 have c1 : (w.alloc (.cells #[.int .i64 n, .slice va l.length vc] 48)).cell? ⟨w.heap.size, 1, none⟩ = some (.slice va l.length vc) := by simp [zf]
 have hz0 : w.heap.size < (w.alloc (.cells #[.int .i64 n, .slice va l.length vc] 48)).heap.size := by simp
 clear hv hs hb0 hm hsl
 unfold setV
 go_enter Tryz.func88, Tryz.ntmps88
 go_wp2_with fail
 generalize w.alloc (.cells #[.int .i64 n, .slice va l.length vc] 48) = w0 at *
 refine (zbm n (.slice va l.length vc) l w0 HM.out (HV.out.below HB0.out) HS.out HL.out).mono ?_
 rintro e w1 ⟨rfl, hb1⟩
 have HB1 := zvc HB0 hb1
 have HM1 := zvb (HM.out.below hb1)
 have d0 := zc hb1 c0
 have d1 := zc hb1 c1
 have hz1 : w.heap.size < w1.heap.size := Nat.lt_of_lt_of_le hz0 hb1.size
 clear hb1 c0 c1 hz0 HM
 rcases hok : V.okR n l with _ | _
 ·have HR : Hid (V.zu n l s = false) := zvb (by rw [HF.out, hok]; rfl)
  clear hok
  exact zyt
 ·have HOK := zvb hok
  clear hok
  go_wp2_with fail
  refine (wn n ⟨s.toArray⟩ w1 HM1.out HSL.out).mono ?_
  rintro e w2 ⟨rfl, hb2⟩
  rw [jh]
  have HB2 := zvc HB1 hb2
  have HM2 := zvb (HM1.out.below hb2)
  have e0 := zc hb2 d0
  have e1 := zc hb2 d1
  clear hb2 d0 d1 hz1 HM1
  rcases hva : V.valid n s with _ | _
  ·exact zyz
  ·have HVA := zvb hva
   have HOKS := zvb (V.vv HOK.out)
   have HF2 : Hid (V.zu n l s = l.any (fun x => V.xp n s x && V.qr n s x)) := zvb (by rw [HF.out, HOK.out, hva, ← V.zud HOKS.out.sch HOKS.out.bnd hva]; rfl)
   have HVS := zvb (show V.valid n (ByteArray.mk s.toArray).data.toList = true by rw [jh]; exact hva)
   clear hva
   have HE := zvb (And.intro e0 e1)
   go_wp2_with fail
   clear e0 e1
   go_loopw [5] (fun iv wx => ∃ k : Nat, k ≤ l.length /\ iv = .int .i64 k /\ (l.take k).any (fun x => V.xp n s x && V.qr n s x) = false /\ Below w2.heap.size w2 wx) (fun iv _ => l.length - (intOf iv).toNat)
   case atStart => exact ⟨0, Nat.zero_le _, rfl, rfl, zve _ _⟩
   case round =>
    obtain ⟨k, hk, rfl, hz, hbx⟩ := hrel
    have HZ := zvb hz
    have HBX := zvb hbx
    have HBF := zvc HB2 hbx
    have d0 := zc hbx HE.out.1
    have d1 := zc hbx HE.out.2
    clear hz hbx
    by_cases hlt : k < l.length
    ·obtain ⟨b, off, rfl, hb0, hx⟩ := HV.out.at k hlt
     obtain ⟨h0, h1, h2, h3⟩ := hx.below hb0 HBF.out
     have hi1 : (0 : Int) ≤ (k : Int) := by omega
     have hi2 : (k : Int) < (l.length : Int) := by omega
     have HBK : Hid (V.zl n l[k] = true) := zvb (HOKS.out.bnd _ (List.getElem_mem hlt))
     have HYES := zvb (fun hb => zkd (p := fun x => V.xp n s x && V.qr n s x) HZ.out hlt hb)
     have HNO := zvb (fun hb => zn9 (p := fun x => V.xp n s x && V.qr n s x) hlt hb)
     clear hx
     generalize l[k] = x at *
     have HAF : Hid (V.xp n s x = (decide (x.lk = 0) || (decide (0 < V.cmpV n s x.lo) || (decide (V.cmpV n s x.lo = 0) && decide (x.lk = 1))))) := zvb rfl
     have HBLF : Hid (V.qr n s x = (decide (x.hk = 0) || (decide (V.cmpV n s x.hi < 0) || (decide (V.cmpV n s x.hi = 0) && decide (x.hk = 1))))) := zvb rfl
     have hbA : Below wr.heap.size wr (wr.alloc (.cells #[.string ⟨x.lo.toArray⟩, .int .i64 x.lk, .string ⟨x.hi.toArray⟩, .int .i64 x.hk] 120)) := (zve _ wr).alloc (zvd _) _
     have HM1 := zvb ((HM2.out.below HBX.out).below hbA)
     have HBA := zvc HBX hbA
     have m0 := zc hbA d0
     have hx4 : zbn (wr.alloc (.cells #[.string ⟨x.lo.toArray⟩, .int .i64 x.lk, .string ⟨x.hi.toArray⟩, .int .i64 x.hk] 120)) wr.heap.size 0 x := by
      exact zzt
     have HX4 := zvb hx4
     clear hbA hx4
     rcases hklk : (x.lk == 0) with _ | _
     ·have hnlk : (x.lk != 0) = true := by simpa using hklk
      rcases hkhk : (x.hk == 0) with _ | _
      ·have hnhk : (x.hk != 0) = true := by simpa using hkhk
       go_wp2_with fail
       generalize wr.alloc (.cells #[.string ⟨x.lo.toArray⟩, .int .i64 x.lk, .string ⟨x.hi.toArray⟩, .int .i64 x.hk] 120) = W1 at *
       obtain ⟨f0, f1, f2, f3⟩ := HX4.out
       rw [Nat.zero_add] at f1 f2 f3
       clear h0 h1 h2 h3 d0 d1
       refine (yg n ⟨s.toArray⟩ ⟨x.lo.toArray⟩ W1 HM1.out HOKS.out.sch HVS.out (show V.valid n (ByteArray.mk x.lo.toArray).data.toList = true by rw [jh]; exact V.ki HBK.out (by simpa using hklk))).mono ?_
       rintro e W2 ⟨rfl, hbo⟩
       rw [jh, jh]
       replace m0 := zc hbo m0
       replace f0 := zc hbo f0
       replace f1 := zc hbo f1
       replace f2 := zc hbo f2
       replace f3 := zc hbo f3
       have HBAo := zvc HBA hbo
       have HM1o := zvb (HM1.out.below hbo)
       clear hbo
       obtain ⟨za, hza⟩ : ∃ z, z = V.cmpV n s x.lo := ⟨_, rfl⟩
       rw [← hza] at HAF ⊢
       clear hza
       have HAF2 : Hid (V.xp n s x = (decide (0 < za) || (decide (za = 0) && decide (x.lk = 1)))) := zvb (by rw [HAF.out, decide_eq_false (show ¬ x.lk = 0 by simpa using hklk), Bool.false_or])
       rcases Int.lt_trichotomy za 0 with hc | hc | hc
       ·have zaa : decide (0 < za) = false := decide_eq_false (by omega)
        have zab : (za == 0) = false := by rw [zvf]; omega
        have HAB : Hid (V.xp n s x = false) := zvb (by rw [HAF2.out, zaa, decide_eq_false (show ¬ za = 0 by omega)]; rfl)
        clear hc
        exact zvp
       ·subst hc
        rcases hqlk : (x.lk == 1) with _ | _
        ·have HAB : Hid (V.xp n s x = false) := zvb (by rw [HAF2.out, decide_eq_false (show ¬ x.lk = 1 by simpa using hqlk)]; rfl)
         exact zvp
        ·have HAB : Hid (V.xp n s x = true) := zvb (by rw [HAF2.out, decide_eq_true (eq_of_beq hqlk)]; rfl)
         exact zvo
       ·have zaa : decide (0 < za) = true := decide_eq_true hc
        have zab : (za == 0) = false := by rw [zvf]; omega
        have HAB : Hid (V.xp n s x = true) := zvb (by rw [HAF2.out, zaa, decide_eq_false (show ¬ za = 0 by omega)]; rfl)
        clear hc
        exact zvo
      ·have hnhk : (x.hk != 0) = false := by simpa using hkhk
       have HBB : Hid (V.qr n s x = true) := zvb (by rw [HBLF.out, decide_eq_true (eq_of_beq hkhk)]; rfl)
       go_wp2_with fail
       generalize wr.alloc (.cells #[.string ⟨x.lo.toArray⟩, .int .i64 x.lk, .string ⟨x.hi.toArray⟩, .int .i64 x.hk] 120) = W1 at *
       obtain ⟨f0, f1, f2, f3⟩ := HX4.out
       rw [Nat.zero_add] at f1 f2 f3
       clear h0 h1 h2 h3 d0 d1
       refine (yg n ⟨s.toArray⟩ ⟨x.lo.toArray⟩ W1 HM1.out HOKS.out.sch HVS.out (show V.valid n (ByteArray.mk x.lo.toArray).data.toList = true by rw [jh]; exact V.ki HBK.out (by simpa using hklk))).mono ?_
       rintro e W2 ⟨rfl, hbo⟩
       rw [jh, jh]
       replace m0 := zc hbo m0
       replace f0 := zc hbo f0
       replace f1 := zc hbo f1
       replace f2 := zc hbo f2
       replace f3 := zc hbo f3
       have HBAo := zvc HBA hbo
       have HM1o := zvb (HM1.out.below hbo)
       clear hbo
       obtain ⟨za, hza⟩ : ∃ z, z = V.cmpV n s x.lo := ⟨_, rfl⟩
       rw [← hza] at HAF ⊢
       clear hza
       have HAF2 : Hid (V.xp n s x = (decide (0 < za) || (decide (za = 0) && decide (x.lk = 1)))) := zvb (by rw [HAF.out, decide_eq_false (show ¬ x.lk = 0 by simpa using hklk), Bool.false_or])
       rcases Int.lt_trichotomy za 0 with hc | hc | hc
       ·have zaa : decide (0 < za) = false := decide_eq_false (by omega)
        have zab : (za == 0) = false := by rw [zvf]; omega
        have HAB : Hid (V.xp n s x = false) := zvb (by rw [HAF2.out, zaa, decide_eq_false (show ¬ za = 0 by omega)]; rfl)
        clear hc
        exact zwf
       ·subst hc
        rcases hqlk : (x.lk == 1) with _ | _
        ·have HAB : Hid (V.xp n s x = false) := zvb (by rw [HAF2.out, decide_eq_false (show ¬ x.lk = 1 by simpa using hqlk)]; rfl)
         exact zwf
        ·have HAB : Hid (V.xp n s x = true) := zvb (by rw [HAF2.out, decide_eq_true (eq_of_beq hqlk)]; rfl)
         exact zwd
       ·have zaa : decide (0 < za) = true := decide_eq_true hc
        have zab : (za == 0) = false := by rw [zvf]; omega
        have HAB : Hid (V.xp n s x = true) := zvb (by rw [HAF2.out, zaa, decide_eq_false (show ¬ za = 0 by omega)]; rfl)
        clear hc
        exact zwd
     ·have hnlk : (x.lk != 0) = false := by simpa using hklk
      have HAB : Hid (V.xp n s x = true) := zvb (by rw [HAF.out, decide_eq_true (eq_of_beq hklk)]; rfl)
      rcases hkhk : (x.hk == 0) with _ | _
      ·have hnhk : (x.hk != 0) = true := by simpa using hkhk
       go_wp2_with fail
       generalize wr.alloc (.cells #[.string ⟨x.lo.toArray⟩, .int .i64 x.lk, .string ⟨x.hi.toArray⟩, .int .i64 x.hk] 120) = W1 at *
       obtain ⟨f0, f1, f2, f3⟩ := HX4.out
       rw [Nat.zero_add] at f1 f2 f3
       clear h0 h1 h2 h3 d0 d1
       refine (yg n ⟨s.toArray⟩ ⟨x.hi.toArray⟩ W1 HM1.out HOKS.out.sch HVS.out (show V.valid n (ByteArray.mk x.hi.toArray).data.toList = true by rw [jh]; exact V.qn HBK.out (by simpa using hkhk))).mono ?_
       rintro e W1h ⟨rfl, hbo⟩
       rw [jh, jh]
       replace m0 := zc hbo m0
       replace f0 := zc hbo f0
       replace f1 := zc hbo f1
       replace f2 := zc hbo f2
       replace f3 := zc hbo f3
       have HBAo := zvc HBA hbo
       have HM1o := zvb (HM1.out.below hbo)
       clear hbo
       obtain ⟨zb, hzb⟩ : ∃ z, z = V.cmpV n s x.hi := ⟨_, rfl⟩
       rw [← hzb] at HBLF ⊢
       clear hzb
       have HBLF2 : Hid (V.qr n s x = (decide (zb < 0) || (decide (zb = 0) && decide (x.hk = 1)))) := zvb (by rw [HBLF.out, decide_eq_false (show ¬ x.hk = 0 by simpa using hkhk), Bool.false_or])
       rcases Int.lt_trichotomy zb 0 with hc | hc | hc
       ·have zba : decide (zb < 0) = true := decide_eq_true hc
        have zbb : (zb == 0) = false := by rw [zvf]; omega
        have HBB : Hid (V.qr n s x = true) := zvb (by rw [HBLF2.out, zba, decide_eq_false (show ¬ zb = 0 by omega)]; rfl)
        clear hc
        exact zwd
       ·subst hc
        rcases hqhk : (x.hk == 1) with _ | _
        ·have HBB : Hid (V.qr n s x = false) := zvb (by rw [HBLF2.out, decide_eq_false (show ¬ x.hk = 1 by simpa using hqhk)]; rfl)
         exact zwf
        ·have HBB : Hid (V.qr n s x = true) := zvb (by rw [HBLF2.out, decide_eq_true (eq_of_beq hqhk)]; rfl)
         exact zwd
       ·have zba : decide (zb < 0) = false := decide_eq_false (by omega)
        have zbb : (zb == 0) = false := by rw [zvf]; omega
        have HBB : Hid (V.qr n s x = false) := zvb (by rw [HBLF2.out, zba, decide_eq_false (show ¬ zb = 0 by omega)]; rfl)
        clear hc
        exact zwf
      ·have hnhk : (x.hk != 0) = false := by simpa using hkhk
       have HBB : Hid (V.qr n s x = true) := zvb (by rw [HBLF.out, decide_eq_true (eq_of_beq hkhk)]; rfl)
       have HR : Hid (V.zu n l s = true) := zvb (by rw [HF2.out]; exact HNO.out (by rw [HAB.out, HBB.out]; rfl))
       go_wp2
       go_ret
       exact ⟨ze HR.out.symm, HB2.out.trans (HBA.out.mono HB2.out.size)⟩
    ·obtain rfl : k = l.length := by omega
     have HR : Hid (V.zu n l s = false) := zvb (by rw [HF2.out]; have := HZ.out; rwa [List.take_length] at this)
     go_wp2
     go_ret
     exact ⟨ze HR.out.symm, HBF.out⟩
namespace V
def zeu (x : Adv) (n : Int) (s v : Bs) : Bool := ql x && x.aff.any (fun a => xx n s a && zu a.rs a.its v)
theorem rcov_at {x : Adv} {n : Int} {s v : Bs} {k : Nat} (hk : k < x.aff.length) (h0 : ql x = true) (h : (xx n s x.aff[k] && zu x.aff[k].rs x.aff[k].its v) = true) : zeu x n s v = true := by
 unfold zeu
 rw [h0, Bool.true_and, List.any_eq_true]
 exact ⟨_, List.getElem_mem hk, h⟩
theorem rcov_no {x : Adv} {n : Int} {s v : Bs} (h : ∀ j (hj : j < x.aff.length), (xx n s x.aff[j] && zu x.aff[j].rs x.aff[j].its v) = false) : zeu x n s v = false := by
 unfold zeu
 rw [Bool.and_eq_false_iff]
 refine .inr (List.any_eq_false.2 fun a ha => ?_)
 obtain ⟨j, hj, rfl⟩ := List.mem_iff_getElem.1 ha
 rw [h j hj]; simp
end V
theorem zj0 (x : V.Adv) (v : Value) (n : Int) (s ver : V.Bs) (w : World) (hm : zi w) (hv : Affs w v x.aff) (hid : x.id.length ≤ maxLen) (hl : x.aff.length ≤ maxLen) (hs : ver.length ≤ maxLen) :
  Calls Tryz.prog 39 #[advV x v, .int .i64 n, .string ⟨s.toArray⟩, .string ⟨ver.toArray⟩] w fun e w' => e = .returned (.bool (V.zeu x n s ver)) /\ Below w.heap.size w w' := by
 obtain ⟨pa, pc, rfl⟩ := hv.slice
 obtain ⟨hb, c0, c1, c2, c3⟩ := zby x (.slice pa x.aff.length pc) w
 have HM := zvb (hm.below hb)
 have HV := zvb (hv.below hb)
 have HB := zvb hb
 have HI := zvb (And.intro hid (And.intro hl hs))
 unfold maxLen at hl
 clear hm hv hid hb hs
 unfold advV
 go_enter Tryz.func39, Tryz.ntmps39
 go_wp2_with fail
 generalize w.alloc (.cells #[.string ⟨x.id.toArray⟩, .int .i64 x.rev, .int .i64 x.sev, .slice pa x.aff.length pc] 41) = wz at *
 refine (zln x (.slice pa x.aff.length pc) wz HM.out HV.out HI.out.1 HI.out.2.1).mono ?_
 rintro e w0 ⟨rfl, hb1⟩
 replace HM := zvb (HM.out.below hb1)
 replace HV := zvb (HV.out.below hb1)
 replace HB := zvc HB hb1
 replace c0 := zd hb1 c0
 replace c1 := zd hb1 c1
 replace c2 := zd hb1 c2
 replace c3 := zd hb1 c3
 clear hb1
 rcases hok : V.ql x with _ | _
 ·have HR : Hid (V.zeu x n s ver = false) := zvb (by unfold V.zeu; rw [hok]; rfl)
  clear hok
  exact zxe
 have HOK := zvb hok
 clear hok
 go_wp2_with fail
 go_loopw [9] (fun iv W => ∃ k : Nat, k ≤ x.aff.length /\ iv = .int .i64 k /\ (∀ j (h : j < x.aff.length), j < k -> (V.xx n s x.aff[j] && V.zu x.aff[j].rs x.aff[j].its ver) = false) /\ Below w0.heap.size w0 W) (fun iv _ => x.aff.length - (intOf iv).toNat)
 case atStart => exact ⟨0, Nat.zero_le _, rfl, (fun j _ h => absurd h (Nat.not_lt_zero _)), zve _ _⟩
 case round =>
  obtain ⟨k, hk, rfl, hno, hbr⟩ := hrel
  have HNO := zvb hno
  have HBR := zvb hbr
  have c3r := zd hbr c3
  clear hno hbr
  by_cases hlt : k < x.aff.length
  ·obtain ⟨hwf, b, off, ua, uc, rfl, hblt, ha⟩ := HV.out.at k hlt
   have HVR := zvb (HV.out.below HBR.out)
   have HW := zvb hwf
   have HA := zvb (ha.below HBR.out)
   have HAT := zvb (V.rcov_at (n := n) (s := s) (v := ver) hlt HOK.out)
   have HNX : Hid ((V.xx n s x.aff[k] && V.zu x.aff[k].rs x.aff[k].its ver) = false -> ∀ j (h : j < x.aff.length), j < k + 1 -> (V.xx n s x.aff[j] && V.zu x.aff[j].rs x.aff[j].its ver) = false) := zvb (fun hf j h hj => by
     by_cases e : j = k
     · subst e; exact hf
     · exact HNO.out j h (by omega))
   generalize x.aff[k] = a at *
   have HPK : Hid (V.xx n s a = (decide (a.sch = n) && decide (a.name = s))) := zvb rfl
   have e0 := HA.out.c0
   have e1 := HA.out.c1
   have e2 := HA.out.c2
   have e3 := HA.out.c3
   have i1 : (0 : Int) ≤ (k : Int) := by omega
   have i2 : (k : Int) < (x.aff.length : Int) := by omega
   have wr1 : IntKind.i64.wrap ((k : Int) + 1) = (k : Int) + 1 := IntWalk.i64_in _ (by omega)
   obtain ⟨hb2, d0, d1, d2, d3⟩ := zbr a (.slice ua a.its.length uc) wr
   have HIT := zvb (HA.out.its.below hb2)
   have HB2 := zvc HBR hb2
   have HM2 := zvb (HM.out.below HB2.out)
   have HV2 := zvb (HVR.out.below hb2)
   have b0 := zd HB2.out c0
   have b1 := zd HB2.out c1
   have b2 := zd HB2.out c2
   have b3 := zd HB2.out c3
   clear hb2 hwf ha HA HVR
   by_cases hp : V.xx n s a = true
   ·rw [hp, Bool.true_and] at HNX HAT
    rw [HPK.out, Bool.and_eq_true, decide_eq_true_eq, decide_eq_true_eq] at hp
    have q1 : (a.sch == n) = true := by simpa using hp.1
    have q2 : (a.name == s) = true := by simpa using hp.2
    have q3 := hp.1
    have q4 := hp.2
    clear hp HPK
    subst q3
    subst q4
    go_wp2_with fail
    generalize wr.alloc (.cells #[.int .i64 a.sch, .string ⟨a.name.toArray⟩, .int .i64 a.rs, .slice ua a.its.length uc] 50) = w2 at *
    refine (zi9 a.rs (.slice ua a.its.length uc) a.its ver w2 HM2.out HIT.out HW.out.lens HW.out.len HI.out.2.2).mono ?_
    rintro e w3 ⟨rfl, hb3⟩
    have HB3 := zvc HB2 hb3
    clear hb3
    rcases hcl : V.zu a.rs a.its ver with _ | _
    ·have HNY := zvb (HNX.out hcl)
     clear hcl HNX HAT
     go_wp2
     go_roundw
     case rel => exact ⟨k + 1, by omega, by go_num, HNY.out, HB3.out⟩
     case measure => simp [intOf]; omega
    ·have HR := zvb (HAT.out hcl)
     clear hcl HNX HAT
     exact zzd
   ·have hpf : V.xx n s a = false := by simpa using hp
    have HNY := zvb (HNX.out (by rw [hpf]; rfl))
    exact zv1
  ·obtain rfl : k = x.aff.length := by omega
   have HR : Hid (V.zeu x n s ver = false) := zvb (V.rcov_no (fun j hj => HNO.out j hj hj))
   go_wp2
   go_ret
   exact ⟨ze HR.out.symm, HB.out.trans (HBR.out.mono HB.out.size)⟩
end Go.Proofs.YtnhfaincdabdkaaGreatDoor

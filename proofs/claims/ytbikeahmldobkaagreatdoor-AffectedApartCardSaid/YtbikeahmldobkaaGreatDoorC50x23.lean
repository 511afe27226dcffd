/-
  Lemmas for the law.
-/
import Derived.Test.YtbikeahmldobkaaGreatDoorC50x19
import Derived.Test.YtbikeahmldobkaaGreatDoorC50x22
set_option linter.all false
set_option maxRecDepth 100000
set_option maxHeartbeats 12800000
namespace Go.Proofs.YtbikeahmldobkaaGreatDoor
open Go.RowKit
theorem zwt {P : Prop} (h : P := by
 go_wp2_with fail
 refine (kz n ⟨s.toArray⟩ ⟨x.hi.toArray⟩ W2 HM1o.out HOKS.out.sch HVS.out (show V.valid n (ByteArray.mk x.hi.toArray).data.toList = true by rw [jq]; exact V.qs HBK.out (by simpa using hkhk))).mono ?_
 rintro e W2h ⟨rfl, hbo⟩
 rw [jq, jq]
 replace m0 := ze hbo m0
 replace f0 := ze hbo f0
 replace f1 := ze hbo f1
 replace f2 := ze hbo f2
 replace f3 := ze hbo f3
 have HBAoo := zwh HBAo hbo
 have HM1oo := zwg (HM1o.out.below hbo)
 clear hbo
 obtain ⟨zb, hzb⟩ : ∃ z, z = V.cmpV n s x.hi := ⟨_, rfl⟩
 rw [← hzb] at HBLF ⊢
 clear hzb
 have HBLF2 : Hid (V.qv n s x = (decide (zb < 0) || (decide (zb = 0) && decide (x.hk = 1)))) := zwg (by rw [HBLF.out, decide_eq_false (show ¬ x.hk = 0 by simpa using hkhk), Bool.false_or])
 rcases Int.lt_trichotomy zb 0 with hc | hc | hc
 ·have zba : decide (zb < 0) = true := decide_eq_true hc
  have zbb : (zb == 0) = false := by rw [zwk]; omega
  have HBB : Hid (V.qv n s x = true) := zwg (by rw [HBLF2.out, zba, decide_eq_false (show ¬ zb = 0 by omega)]; rfl)
  clear hc
  have HR : Hid (V.qa n l s = true) := zwg (by rw [HF2.out]; exact HNO.out (by rw [HAB.out, HBB.out]; rfl))
  go_wp2
  go_ret
  exact ⟨zg HR.out.symm, HB2.out.trans (HBAoo.out.mono HB2.out.size)⟩
 ·subst hc
  rcases hqhk : (x.hk == 1) with _ | _
  ·have HBB : Hid (V.qv n s x = false) := zwg (by rw [HBLF2.out, decide_eq_false (show ¬ x.hk = 1 by simpa using hqhk)]; rfl)
   have HY := zwg (HYES.out (by rw [HAB.out, HBB.out]; rfl))
   go_wp2
   go_roundw
   case rel => exact ⟨k + 1, by omega, by go_num, HY.out, HBAoo.out⟩
   case measure => simp [intOf]; omega
  ·have HBB : Hid (V.qv n s x = true) := zwg (by rw [HBLF2.out, decide_eq_true (eq_of_beq hqhk)]; rfl)
   have HR : Hid (V.qa n l s = true) := zwg (by rw [HF2.out]; exact HNO.out (by rw [HAB.out, HBB.out]; rfl))
   go_wp2
   go_ret
   exact ⟨zg HR.out.symm, HB2.out.trans (HBAoo.out.mono HB2.out.size)⟩
 ·have zba : decide (zb < 0) = false := decide_eq_false (by omega)
  have zbb : (zb == 0) = false := by rw [zwk]; omega
  have HBB : Hid (V.qv n s x = false) := zwg (by rw [HBLF2.out, zba, decide_eq_false (show ¬ zb = 0 by omega)]; rfl)
  clear hc
  have HY := zwg (HYES.out (by rw [HAB.out, HBB.out]; rfl))
  go_wp2
  go_roundw
  case rel => exact ⟨k + 1, by omega, by go_num, HY.out, HBAoo.out⟩
  case measure => simp [intOf]; omega) : P := h
theorem zwu {P : Prop} (h : P := by
 go_wp2_with fail
 refine (kz n ⟨s.toArray⟩ ⟨x.hi.toArray⟩ W2 HM1o.out HOKS.out.sch HVS.out (show V.valid n (ByteArray.mk x.hi.toArray).data.toList = true by rw [jq]; exact V.qs HBK.out (by simpa using hkhk))).mono ?_
 rintro e W2h ⟨rfl, hbo⟩
 rw [jq, jq]
 replace m0 := ze hbo m0
 replace f0 := ze hbo f0
 replace f1 := ze hbo f1
 replace f2 := ze hbo f2
 replace f3 := ze hbo f3
 have HBAoo := zwh HBAo hbo
 have HM1oo := zwg (HM1o.out.below hbo)
 clear hbo
 obtain ⟨zb, hzb⟩ : ∃ z, z = V.cmpV n s x.hi := ⟨_, rfl⟩
 rw [← hzb] at HBLF ⊢
 clear hzb
 have HBLF2 : Hid (V.qv n s x = (decide (zb < 0) || (decide (zb = 0) && decide (x.hk = 1)))) := zwg (by rw [HBLF.out, decide_eq_false (show ¬ x.hk = 0 by simpa using hkhk), Bool.false_or])
 rcases Int.lt_trichotomy zb 0 with hc | hc | hc
 ·have zba : decide (zb < 0) = true := decide_eq_true hc
  have zbb : (zb == 0) = false := by rw [zwk]; omega
  have HBB : Hid (V.qv n s x = true) := zwg (by rw [HBLF2.out, zba, decide_eq_false (show ¬ zb = 0 by omega)]; rfl)
  clear hc
  have HY := zwg (HYES.out (by rw [HAB.out, HBB.out]; rfl))
  go_wp2
  go_roundw
  case rel => exact ⟨k + 1, by omega, by go_num, HY.out, HBAoo.out⟩
  case measure => simp [intOf]; omega
 ·subst hc
  rcases hqhk : (x.hk == 1) with _ | _
  ·have HBB : Hid (V.qv n s x = false) := zwg (by rw [HBLF2.out, decide_eq_false (show ¬ x.hk = 1 by simpa using hqhk)]; rfl)
   have HY := zwg (HYES.out (by rw [HAB.out, HBB.out]; rfl))
   go_wp2
   go_roundw
   case rel => exact ⟨k + 1, by omega, by go_num, HY.out, HBAoo.out⟩
   case measure => simp [intOf]; omega
  ·have HBB : Hid (V.qv n s x = true) := zwg (by rw [HBLF2.out, decide_eq_true (eq_of_beq hqhk)]; rfl)
   have HY := zwg (HYES.out (by rw [HAB.out, HBB.out]; rfl))
   go_wp2
   go_roundw
   case rel => exact ⟨k + 1, by omega, by go_num, HY.out, HBAoo.out⟩
   case measure => simp [intOf]; omega
 ·have zba : decide (zb < 0) = false := decide_eq_false (by omega)
  have zbb : (zb == 0) = false := by rw [zwk]; omega
  have HBB : Hid (V.qv n s x = false) := zwg (by rw [HBLF2.out, zba, decide_eq_false (show ¬ zb = 0 by omega)]; rfl)
  clear hc
  have HY := zwg (HYES.out (by rw [HAB.out, HBB.out]; rfl))
  go_wp2
  go_roundw
  case rel => exact ⟨k + 1, by omega, by go_num, HY.out, HBAoo.out⟩
  case measure => simp [intOf]; omega) : P := h
theorem zxd {P : Prop} (h : P := by
 have HR : Hid (V.qa n l s = true) := zwg (by rw [HF2.out]; exact HNO.out (by rw [HAB.out, HBB.out]; rfl))
 go_wp2
 go_ret
 exact ⟨zg HR.out.symm, HB2.out.trans (HBAo.out.mono HB2.out.size)⟩) : P := h
theorem zxe {P : Prop} (h : P := by
 have HY := zwg (HYES.out (by rw [HAB.out, HBB.out]; rfl))
 go_wp2
 go_roundw
 case rel => exact ⟨k + 1, by omega, by go_num, HY.out, HBAo.out⟩
 case measure => simp [intOf]; omega) : P := h
theorem zjg (n : Int) (v : Value) (l : List V.Itv) (s : V.Bs) (w : World) (hm : zj w) (hv : Itvs w v l) (hs : Lens l) (hl : l.length ≤ maxLen) (hsl : s.length ≤ maxLen) :
  Calls Tryz.prog 56 #[setV n v, .string ⟨s.toArray⟩] w fun e w' => e = .returned (.bool (V.qa n l s)) /\ Below w.heap.size w w' := by
 have HV := zwg hv
 obtain ⟨va, vc, rfl⟩ := hv.slice
 have HL := zwg hl
 have h8 := zwg (show (ByteArray.mk s.toArray).size ≤ maxLen by simpa [ByteArray.size] using hsl)
 unfold maxLen at hl
 have HS := zwg hs
 have HF : Hid (V.qa n l s = (V.okR n l && (V.valid n s && V.hasL n l s))) := zwg rfl
 have g4 : Below w.heap.size w (w.alloc (.cells #[.int .i64 n, .slice va l.length vc] 68)) := (zwj _ w).alloc (zwi _) _
 have HB0 := zwg g4
 have HM := zwg (hm.below g4)
 have c0 : (w.alloc (.cells #[.int .i64 n, .slice va l.length vc] 68)).cell? ⟨w.heap.size, 0, none⟩ = some (.int .i64 n) := by simp [zh]
 have c1 : (w.alloc (.cells #[.int .i64 n, .slice va l.length vc] 68)).cell? ⟨w.heap.size, 1, none⟩ = some (.slice va l.length vc) := by simp [zh]
 have h5 : w.heap.size < (w.alloc (.cells #[.int .i64 n, .slice va l.length vc] 68)).heap.size := by simp
 clear hv hs g4 hm hsl
 unfold setV
 go_enter Tryz.func56, Tryz.ntmps56
 go_wp2_with fail
 generalize w.alloc (.cells #[.int .i64 n, .slice va l.length vc] 68) = w0 at *
 refine (zbs n (.slice va l.length vc) l w0 HM.out (HV.out.below HB0.out) HS.out HL.out).mono ?_
 rintro e w1 ⟨rfl, hb1⟩
 have HB1 := zwh HB0 hb1
 have g1 := zwg (HM.out.below hb1)
 have d0 := ze hb1 c0
 have d1 := ze hb1 c1
 have h9 : w.heap.size < w1.heap.size := Nat.lt_of_lt_of_le h5 hb1.size
 clear hb1 c0 c1 h5 HM
 rcases hok : V.okR n l with _ | _
 ·have HR : Hid (V.qa n l s = false) := zwg (by rw [HF.out, hok]; rfl)
  clear hok
  exact zzo
 ·have HOK := zwg hok
  clear hok
  go_wp2_with fail
  refine (kr n ⟨s.toArray⟩ w1 g1.out h8.out).mono ?_
  rintro e w2 ⟨rfl, hb2⟩
  rw [jq]
  have HB2 := zwh HB1 hb2
  have j0 := zwg (g1.out.below hb2)
  have e0 := ze hb2 d0
  have e1 := ze hb2 d1
  clear hb2 d0 d1 h9 g1
  rcases hva : V.valid n s with _ | _
  ·exact zzt
  ·have j1 := zwg hva
   have HOKS := zwg (V.zg0 HOK.out)
   have HF2 : Hid (V.qa n l s = l.any (fun x => V.xm n s x && V.qv n s x)) := zwg (by rw [HF.out, HOK.out, hva, ← V.zvj HOKS.out.sch HOKS.out.bnd hva]; rfl)
   have HVS := zwg (show V.valid n (ByteArray.mk s.toArray).data.toList = true by rw [jq]; exact hva)
   clear hva
   have HE := zwg (And.intro e0 e1)
   go_wp2_with fail
   clear e0 e1
   go_loopw [5] (fun iv wx => ∃ k : Nat, k ≤ l.length /\ iv = .int .i64 k /\ (l.take k).any (fun x => V.xm n s x && V.qv n s x) = false /\ Below w2.heap.size w2 wx) (fun iv _ => l.length - (intOf iv).toNat)
   case atStart => exact ⟨0, Nat.zero_le _, rfl, rfl, zwj _ _⟩
   case round =>
    obtain ⟨k, hk, rfl, hz, g5⟩ := hrel
    have HZ := zwg hz
    have HBX := zwg g5
    have HBF := zwh HB2 g5
    have d0 := ze g5 HE.out.1
    have d1 := ze g5 HE.out.2
    clear hz g5
    by_cases hlt : k < l.length
    ·obtain ⟨b, off, rfl, g4, hx⟩ := HV.out.at k hlt
     obtain ⟨h0, h1, h2, h3⟩ := hx.below g4 HBF.out
     have j2 : (0 : Int) ≤ (k : Int) := by omega
     have j3 : (k : Int) < (l.length : Int) := by omega
     have HBK : Hid (V.zr n l[k] = true) := zwg (HOKS.out.bnd _ (List.getElem_mem hlt))
     have HYES := zwg (fun hb => zj9 (p := fun x => V.xm n s x && V.qv n s x) HZ.out hlt hb)
     have HNO := zwg (fun hb => zn2 (p := fun x => V.xm n s x && V.qv n s x) hlt hb)
     clear hx
     generalize l[k] = x at *
     have g6 : Hid (V.xm n s x = (decide (x.lk = 0) || (decide (0 < V.cmpV n s x.lo) || (decide (V.cmpV n s x.lo = 0) && decide (x.lk = 1))))) := zwg rfl
     have HBLF : Hid (V.qv n s x = (decide (x.hk = 0) || (decide (V.cmpV n s x.hi < 0) || (decide (V.cmpV n s x.hi = 0) && decide (x.hk = 1))))) := zwg rfl
     have hbA : Below wr.heap.size wr (wr.alloc (.cells #[.string ⟨x.lo.toArray⟩, .int .i64 x.lk, .string ⟨x.hi.toArray⟩, .int .i64 x.hk] 83)) := (zwj _ wr).alloc (zwi _) _
     have g1 := zwg ((j0.out.below HBX.out).below hbA)
     have g9 := zwh HBX hbA
     have m0 := ze hbA d0
     have h6 : zcb (wr.alloc (.cells #[.string ⟨x.lo.toArray⟩, .int .i64 x.lk, .string ⟨x.hi.toArray⟩, .int .i64 x.hk] 83)) wr.heap.size 0 x := by
      exact z0p
     have h4 := zwg h6
     clear hbA h6
     rcases g2 : (x.lk == 0) with _ | _
     ·have h7 : (x.lk != 0) = true := by simpa using g2
      rcases hkhk : (x.hk == 0) with _ | _
      ·have g8 : (x.hk != 0) = true := by simpa using hkhk
       go_wp2_with fail
       generalize wr.alloc (.cells #[.string ⟨x.lo.toArray⟩, .int .i64 x.lk, .string ⟨x.hi.toArray⟩, .int .i64 x.hk] 83) = W1 at *
       obtain ⟨f0, f1, f2, f3⟩ := h4.out
       rw [Nat.zero_add] at f1 f2 f3
       clear h0 h1 h2 h3 d0 d1
       refine (kz n ⟨s.toArray⟩ ⟨x.lo.toArray⟩ W1 g1.out HOKS.out.sch HVS.out (show V.valid n (ByteArray.mk x.lo.toArray).data.toList = true by rw [jq]; exact V.kw HBK.out (by simpa using g2))).mono ?_
       rintro e W2 ⟨rfl, hbo⟩
       rw [jq, jq]
       replace m0 := ze hbo m0
       replace f0 := ze hbo f0
       replace f1 := ze hbo f1
       replace f2 := ze hbo f2
       replace f3 := ze hbo f3
       have HBAo := zwh g9 hbo
       have HM1o := zwg (g1.out.below hbo)
       clear hbo
       obtain ⟨za, g7⟩ : ∃ z, z = V.cmpV n s x.lo := ⟨_, rfl⟩
       rw [← g7] at g6 ⊢
       clear g7
       have g0 : Hid (V.xm n s x = (decide (0 < za) || (decide (za = 0) && decide (x.lk = 1)))) := zwg (by rw [g6.out, decide_eq_false (show ¬ x.lk = 0 by simpa using g2), Bool.false_or])
       rcases Int.lt_trichotomy za 0 with hc | hc | hc
       ·have zaa : decide (0 < za) = false := decide_eq_false (by omega)
        have zab : (za == 0) = false := by rw [zwk]; omega
        have HAB : Hid (V.xm n s x = false) := zwg (by rw [g0.out, zaa, decide_eq_false (show ¬ za = 0 by omega)]; rfl)
        clear hc
        exact zwu
       ·subst hc
        rcases g3 : (x.lk == 1) with _ | _
        ·have HAB : Hid (V.xm n s x = false) := zwg (by rw [g0.out, decide_eq_false (show ¬ x.lk = 1 by simpa using g3)]; rfl)
         exact zwu
        ·have HAB : Hid (V.xm n s x = true) := zwg (by rw [g0.out, decide_eq_true (eq_of_beq g3)]; rfl)
         exact zwt
       ·have zaa : decide (0 < za) = true := decide_eq_true hc
        have zab : (za == 0) = false := by rw [zwk]; omega
        have HAB : Hid (V.xm n s x = true) := zwg (by rw [g0.out, zaa, decide_eq_false (show ¬ za = 0 by omega)]; rfl)
        clear hc
        exact zwt
      ·have g8 : (x.hk != 0) = false := by simpa using hkhk
       have HBB : Hid (V.qv n s x = true) := zwg (by rw [HBLF.out, decide_eq_true (eq_of_beq hkhk)]; rfl)
       go_wp2_with fail
       generalize wr.alloc (.cells #[.string ⟨x.lo.toArray⟩, .int .i64 x.lk, .string ⟨x.hi.toArray⟩, .int .i64 x.hk] 83) = W1 at *
       obtain ⟨f0, f1, f2, f3⟩ := h4.out
       rw [Nat.zero_add] at f1 f2 f3
       clear h0 h1 h2 h3 d0 d1
       refine (kz n ⟨s.toArray⟩ ⟨x.lo.toArray⟩ W1 g1.out HOKS.out.sch HVS.out (show V.valid n (ByteArray.mk x.lo.toArray).data.toList = true by rw [jq]; exact V.kw HBK.out (by simpa using g2))).mono ?_
       rintro e W2 ⟨rfl, hbo⟩
       rw [jq, jq]
       replace m0 := ze hbo m0
       replace f0 := ze hbo f0
       replace f1 := ze hbo f1
       replace f2 := ze hbo f2
       replace f3 := ze hbo f3
       have HBAo := zwh g9 hbo
       have HM1o := zwg (g1.out.below hbo)
       clear hbo
       obtain ⟨za, g7⟩ : ∃ z, z = V.cmpV n s x.lo := ⟨_, rfl⟩
       rw [← g7] at g6 ⊢
       clear g7
       have g0 : Hid (V.xm n s x = (decide (0 < za) || (decide (za = 0) && decide (x.lk = 1)))) := zwg (by rw [g6.out, decide_eq_false (show ¬ x.lk = 0 by simpa using g2), Bool.false_or])
       rcases Int.lt_trichotomy za 0 with hc | hc | hc
       ·have zaa : decide (0 < za) = false := decide_eq_false (by omega)
        have zab : (za == 0) = false := by rw [zwk]; omega
        have HAB : Hid (V.xm n s x = false) := zwg (by rw [g0.out, zaa, decide_eq_false (show ¬ za = 0 by omega)]; rfl)
        clear hc
        exact zxe
       ·subst hc
        rcases g3 : (x.lk == 1) with _ | _
        ·have HAB : Hid (V.xm n s x = false) := zwg (by rw [g0.out, decide_eq_false (show ¬ x.lk = 1 by simpa using g3)]; rfl)
         exact zxe
        ·have HAB : Hid (V.xm n s x = true) := zwg (by rw [g0.out, decide_eq_true (eq_of_beq g3)]; rfl)
         exact zxd
       ·have zaa : decide (0 < za) = true := decide_eq_true hc
        have zab : (za == 0) = false := by rw [zwk]; omega
        have HAB : Hid (V.xm n s x = true) := zwg (by rw [g0.out, zaa, decide_eq_false (show ¬ za = 0 by omega)]; rfl)
        clear hc
        exact zxd
     ·have h7 : (x.lk != 0) = false := by simpa using g2
      have HAB : Hid (V.xm n s x = true) := zwg (by rw [g6.out, decide_eq_true (eq_of_beq g2)]; rfl)
      rcases hkhk : (x.hk == 0) with _ | _
      ·have g8 : (x.hk != 0) = true := by simpa using hkhk
       go_wp2_with fail
       generalize wr.alloc (.cells #[.string ⟨x.lo.toArray⟩, .int .i64 x.lk, .string ⟨x.hi.toArray⟩, .int .i64 x.hk] 83) = W1 at *
       obtain ⟨f0, f1, f2, f3⟩ := h4.out
       rw [Nat.zero_add] at f1 f2 f3
       clear h0 h1 h2 h3 d0 d1
       refine (kz n ⟨s.toArray⟩ ⟨x.hi.toArray⟩ W1 g1.out HOKS.out.sch HVS.out (show V.valid n (ByteArray.mk x.hi.toArray).data.toList = true by rw [jq]; exact V.qs HBK.out (by simpa using hkhk))).mono ?_
       rintro e W1h ⟨rfl, hbo⟩
       rw [jq, jq]
       replace m0 := ze hbo m0
       replace f0 := ze hbo f0
       replace f1 := ze hbo f1
       replace f2 := ze hbo f2
       replace f3 := ze hbo f3
       have HBAo := zwh g9 hbo
       have HM1o := zwg (g1.out.below hbo)
       clear hbo
       obtain ⟨zb, hzb⟩ : ∃ z, z = V.cmpV n s x.hi := ⟨_, rfl⟩
       rw [← hzb] at HBLF ⊢
       clear hzb
       have HBLF2 : Hid (V.qv n s x = (decide (zb < 0) || (decide (zb = 0) && decide (x.hk = 1)))) := zwg (by rw [HBLF.out, decide_eq_false (show ¬ x.hk = 0 by simpa using hkhk), Bool.false_or])
       rcases Int.lt_trichotomy zb 0 with hc | hc | hc
       ·have zba : decide (zb < 0) = true := decide_eq_true hc
        have zbb : (zb == 0) = false := by rw [zwk]; omega
        have HBB : Hid (V.qv n s x = true) := zwg (by rw [HBLF2.out, zba, decide_eq_false (show ¬ zb = 0 by omega)]; rfl)
        clear hc
        exact zxd
       ·subst hc
        rcases hqhk : (x.hk == 1) with _ | _
        ·have HBB : Hid (V.qv n s x = false) := zwg (by rw [HBLF2.out, decide_eq_false (show ¬ x.hk = 1 by simpa using hqhk)]; rfl)
         exact zxe
        ·have HBB : Hid (V.qv n s x = true) := zwg (by rw [HBLF2.out, decide_eq_true (eq_of_beq hqhk)]; rfl)
         exact zxd
       ·have zba : decide (zb < 0) = false := decide_eq_false (by omega)
        have zbb : (zb == 0) = false := by rw [zwk]; omega
        have HBB : Hid (V.qv n s x = false) := zwg (by rw [HBLF2.out, zba, decide_eq_false (show ¬ zb = 0 by omega)]; rfl)
        clear hc
        exact zxe
      ·have g8 : (x.hk != 0) = false := by simpa using hkhk
       have HBB : Hid (V.qv n s x = true) := zwg (by rw [HBLF.out, decide_eq_true (eq_of_beq hkhk)]; rfl)
       have HR : Hid (V.qa n l s = true) := zwg (by rw [HF2.out]; exact HNO.out (by rw [HAB.out, HBB.out]; rfl))
       go_wp2
       go_ret
       exact ⟨zg HR.out.symm, HB2.out.trans (g9.out.mono HB2.out.size)⟩
    ·obtain rfl : k = l.length := by omega
     have HR : Hid (V.qa n l s = false) := zwg (by rw [HF2.out]; have := HZ.out; rwa [List.take_length] at this)
     go_wp2
     go_ret
     exact ⟨zg HR.out.symm, HBF.out⟩
namespace V
def ze0 (x : Adv) (n : Int) (s v : Bs) : Bool := qy x && x.aff.any (fun a => ui n s a && qa a.rs a.its v)
theorem rcov_at {x : Adv} {n : Int} {s v : Bs} {k : Nat} (hk : k < x.aff.length) (h0 : qy x = true) (h : (ui n s x.aff[k] && qa x.aff[k].rs x.aff[k].its v) = true) : ze0 x n s v = true := by
 unfold ze0
 rw [h0, Bool.true_and, List.any_eq_true]
 exact ⟨_, List.getElem_mem hk, h⟩
theorem rcov_no {x : Adv} {n : Int} {s v : Bs} (h : ∀ j (hj : j < x.aff.length), (ui n s x.aff[j] && qa x.aff[j].rs x.aff[j].its v) = false) : ze0 x n s v = false := by
 unfold ze0
 rw [Bool.and_eq_false_iff]
 refine .inr (List.any_eq_false.2 fun a ha => ?_)
 obtain ⟨j, hj, rfl⟩ := List.mem_iff_getElem.1 ha
 rw [h j hj]; simp
end V
theorem zd2 (x : V.Adv) (v : Value) (n : Int) (s ver : V.Bs) (w : World) (hm : zj w) (hv : Affs w v x.aff) (g3 : x.id.length ≤ maxLen) (hl : x.aff.length ≤ maxLen) (hs : ver.length ≤ maxLen) :
  Calls Tryz.prog 30 #[advV x v, .int .i64 n, .string ⟨s.toArray⟩, .string ⟨ver.toArray⟩] w fun e w' => e = .returned (.bool (V.ze0 x n s ver)) /\ Below w.heap.size w w' := by
 obtain ⟨pa, pc, rfl⟩ := hv.slice
 obtain ⟨hb, c0, c1, c2, c3⟩ := zi2 x (.slice pa x.aff.length pc) w
 have HM := zwg (hm.below hb)
 have HV := zwg (hv.below hb)
 have HB := zwg hb
 have HI := zwg (And.intro g3 (And.intro hl hs))
 unfold maxLen at hl
 clear hm hv g3 hb hs
 unfold advV
 go_enter Tryz.func30, Tryz.ntmps30
 go_wp2_with fail
 generalize w.alloc (.cells #[.string ⟨x.id.toArray⟩, .int .i64 x.rev, .int .i64 x.sev, .slice pa x.aff.length pc] 54) = wz at *
 refine (zle x (.slice pa x.aff.length pc) wz HM.out HV.out HI.out.1 HI.out.2.1).mono ?_
 rintro e w0 ⟨rfl, hb1⟩
 replace HM := zwg (HM.out.below hb1)
 replace HV := zwg (HV.out.below hb1)
 replace HB := zwh HB hb1
 replace c0 := zf hb1 c0
 replace c1 := zf hb1 c1
 replace c2 := zf hb1 c2
 replace c3 := zf hb1 c3
 clear hb1
 rcases hok : V.qy x with _ | _
 ·have HR : Hid (V.ze0 x n s ver = false) := zwg (by unfold V.ze0; rw [hok]; rfl)
  clear hok
  exact zya
 have HOK := zwg hok
 clear hok
 go_wp2_with fail
 go_loopw [9] (fun iv W => ∃ k : Nat, k ≤ x.aff.length /\ iv = .int .i64 k /\ (∀ j (h : j < x.aff.length), j < k -> (V.ui n s x.aff[j] && V.qa x.aff[j].rs x.aff[j].its ver) = false) /\ Below w0.heap.size w0 W) (fun iv _ => x.aff.length - (intOf iv).toNat)
 case atStart => exact ⟨0, Nat.zero_le _, rfl, (fun j _ h => absurd h (Nat.not_lt_zero _)), zwj _ _⟩
 case round =>
  obtain ⟨k, hk, rfl, g4, g2⟩ := hrel
  have HNO := zwg g4
  have g0 := zwg g2
  have c3r := zf g2 c3
  clear g4 g2
  by_cases hlt : k < x.aff.length
  ·obtain ⟨g5, b, off, ua, uc, rfl, g9, ha⟩ := HV.out.at k hlt
   have g6 := zwg (HV.out.below g0.out)
   have HW := zwg g5
   have HA := zwg (ha.below g0.out)
   have HAT := zwg (V.rcov_at (n := n) (s := s) (v := ver) hlt HOK.out)
   have HNX : Hid ((V.ui n s x.aff[k] && V.qa x.aff[k].rs x.aff[k].its ver) = false -> ∀ j (h : j < x.aff.length), j < k + 1 -> (V.ui n s x.aff[j] && V.qa x.aff[j].rs x.aff[j].its ver) = false) := zwg (fun hf j h hj => by
     by_cases e : j = k
     · subst e; exact hf
     · exact HNO.out j h (by omega))
   generalize x.aff[k] = a at *
   have HPK : Hid (V.ui n s a = (decide (a.sch = n) && decide (a.name = s))) := zwg rfl
   have e0 := HA.out.c0
   have e1 := HA.out.c1
   have e2 := HA.out.c2
   have e3 := HA.out.c3
   have i1 : (0 : Int) ≤ (k : Int) := by omega
   have i2 : (k : Int) < (x.aff.length : Int) := by omega
   have wr1 : IntKind.i64.wrap ((k : Int) + 1) = (k : Int) + 1 := IntWalk.i64_in _ (by omega)
   obtain ⟨hb2, d0, d1, d2, d3⟩ := zga a (.slice ua a.its.length uc) wr
   have g7 := zwg (HA.out.its.below hb2)
   have HB2 := zwh g0 hb2
   have g8 := zwg (HM.out.below HB2.out)
   have h0 := zwg (g6.out.below hb2)
   have b0 := zf HB2.out c0
   have b1 := zf HB2.out c1
   have b2 := zf HB2.out c2
   have b3 := zf HB2.out c3
   clear hb2 g5 ha HA g6
   by_cases hp : V.ui n s a = true
   ·rw [hp, Bool.true_and] at HNX HAT
    rw [HPK.out, Bool.and_eq_true, decide_eq_true_eq, decide_eq_true_eq] at hp
    have q1 : (a.sch == n) = true := by simpa using hp.1
    have q2 : (a.name == s) = true := by simpa using hp.2
    have q3 := hp.1
    have q4 := hp.2
    clear hp HPK
    subst q3
    subst q4
    go_wp2_with fail
    generalize wr.alloc (.cells #[.int .i64 a.sch, .string ⟨a.name.toArray⟩, .int .i64 a.rs, .slice ua a.its.length uc] 70) = w2 at *
    refine (zjg a.rs (.slice ua a.its.length uc) a.its ver w2 g8.out g7.out HW.out.lens HW.out.len HI.out.2.2).mono ?_
    rintro e w3 ⟨rfl, hb3⟩
    have HB3 := zwh HB2 hb3
    clear hb3
    rcases g1 : V.qa a.rs a.its ver with _ | _
    ·have HNY := zwg (HNX.out g1)
     clear g1 HNX HAT
     go_wp2
     go_roundw
     case rel => exact ⟨k + 1, by omega, by go_num, HNY.out, HB3.out⟩
     case measure => simp [intOf]; omega
    ·have HR := zwg (HAT.out g1)
     clear g1 HNX HAT
     exact zz0
   ·have hpf : V.ui n s a = false := by simpa using hp
    have HNY := zwg (HNX.out (by rw [hpf]; rfl))
    exact zw2
  ·obtain rfl : k = x.aff.length := by omega
   have HR : Hid (V.ze0 x n s ver = false) := zwg (V.rcov_no (fun j hj => HNO.out j hj hj))
   go_wp2
   go_ret
   exact ⟨zg HR.out.symm, HB.out.trans (g0.out.mono HB.out.size)⟩
open Go.RowKit
namespace V
structure Cmp {α : Type} (c : α -> α -> Int) : Prop where
 zero : ∀ a b, c a b = 0 ↔ a = b
 anti : ∀ a b, c a b < 0 ↔ 0 < c b a
 trans : ∀ a b d, c a b < 0 -> c b d < 0 -> c a d < 0
theorem _root_.Go.Proofs.YtbikeahmldobkaaGreatDoor.z0k {P : Prop} (h : P := by
 apply UInt8.toNat_inj.1
 simp only [UInt8.lt_iff_toNat_lt] at h1 h2
 omega) : P := h
theorem zfo : ∀ a b : Bs, Lib.compareBytes a b = 0 ↔ a = b
 | [], [] => by simp [Lib.compareBytes]
 | [], y :: b => by simp [Lib.compareBytes]
 | x :: a, [] => by simp [Lib.compareBytes]
 | x :: a, y :: b => by
  have ih := zfo a b
  unfold Lib.compareBytes
  by_cases h1 : x < y
  ·rw [if_pos h1]
   simp only [List.cons.injEq]
   exact ⟨fun h => absurd h (by decide), fun h => absurd h1 (by rw [h.1]; exact UInt8.lt_irrefl y)⟩
  ·rw [if_neg h1]
   by_cases h2 : y < x
   ·rw [if_pos h2]
    simp only [List.cons.injEq]
    exact ⟨fun h => absurd h (by decide), fun h => absurd h2 (by rw [h.1]; exact UInt8.lt_irrefl y)⟩
   ·rw [if_neg h2, ih]
    have e : x = y := by
     exact z0k
    simp [e]
theorem zk1 : ∀ a b : Bs, Lib.compareBytes a b = - Lib.compareBytes b a
 | [], [] => by simp [Lib.compareBytes]
 | [], y :: b => by simp [Lib.compareBytes]
 | x :: a, [] => by simp [Lib.compareBytes]
 | x :: a, y :: b => by
  have ih := zk1 a b
  unfold Lib.compareBytes
  simp only [UInt8.lt_iff_toNat_lt] at *
  by_cases h1 : x.toNat < y.toNat
  ·rw [if_pos h1, if_neg (by omega), if_pos h1]
  ·rw [if_neg h1]
   by_cases h2 : y.toNat < x.toNat
   ·rw [if_pos h2, if_pos h2]; rfl
   ·rw [if_neg h2, if_neg h2, if_neg h1, ih]
theorem _root_.Go.Proofs.YtbikeahmldobkaaGreatDoor.zxm {P : Prop} (h : P := by
 split at h1
 ·split at h2
  ·rw [if_pos (by omega)]; decide
  ·split at h2
   ·exact absurd h2 (by decide)
   ·rw [if_pos (by omega)]; decide
 ·split at h1
  ·exact absurd h1 (by decide)
  ·split at h2
   ·rw [if_pos (by omega)]; decide
   ·split at h2
    ·exact absurd h2 (by decide)
    ·rw [if_neg (by omega), if_neg (by omega)]
     exact ih h1 h2) : P := h
theorem zd6 : ∀ a b d : Bs, Lib.compareBytes a b < 0 -> Lib.compareBytes b d < 0 -> Lib.compareBytes a d < 0
 | [], _, [], h1, h2 => by
  rename_i b
  cases b
  ·exact h1
  ·simp [Lib.compareBytes] at h2
 | [], _, _ :: _, _, _ => by simp [Lib.compareBytes]
 | _ :: _, [], _, h1, _ => by simp [Lib.compareBytes] at h1
 | _ :: _, _ :: _, [], _, h2 => by simp [Lib.compareBytes] at h2
 | x :: a, y :: b, z :: d, h1, h2 => by
  have ih := zd6 a b d
  unfold Lib.compareBytes at h1 h2 ⊢
  simp only [UInt8.lt_iff_toNat_lt] at *
  exact zxm
theorem za1 : Cmp Lib.compareBytes :=
 ⟨zfo, fun a b => by rw [zk1 a b]; omega, zd6⟩
theorem aff_lt {a b : Aff} : affC a b < 0 ↔ a.sch < b.sch ∨ a.sch = b.sch /\ Lib.compareBytes a.name b.name < 0 := by
 unfold affC
 have hi : ∀ x y : Int, (Lib.compareInt x y < 0 ↔ x < y) /\ (Lib.compareInt x y = 0 ↔ x = y) := fun x y => by
  unfold Lib.compareInt
  split
  ·omega
  ·split <;> omega
 have h := hi a.sch b.sch
 simp only [orI, cor]
 by_cases e : Lib.compareInt a.sch b.sch = 0
 ·have e2 := h.2.1 e
  rw [if_pos e]
  split <;> omega
 ·have e2 : ¬ a.sch = b.sch := fun q => e (h.2.2 q)
  rw [if_neg e]
  omega
theorem zut {a b d : Aff} (h1 : affC a b < 0) (h2 : affC b d < 0) : affC a d < 0 := by
 rw [aff_lt] at *
 rcases h1 with h1 | ⟨e1, h1⟩
 ·rcases h2 with h2 | ⟨e2, h2⟩ <;> omega
 ·rcases h2 with h2 | ⟨e2, h2⟩
  ·omega
  ·exact .inr ⟨by omega, zd6 _ _ _ h1 h2⟩
theorem zts {a b : Aff} (h : affC a b < 0) : ¬ (a.sch = b.sch /\ a.name = b.name) := fun e => by
 rw [aff_lt] at h
 rcases h with h | ⟨_, h⟩
 ·omega
 ·rw [e.2, (zfo _ _).2 rfl] at h
  omega
theorem aff_asc {l : List Aff} (h : yv l l.length = true) : ∀ i j (hi : i < l.length) (hj : j < l.length), i < j -> affC l[i] l[j] < 0 := by
 intro i j hi hj g0
 induction j with
 | zero => omega
 | succ j ih =>
  have h1 := zjx h (j + 1) hj hj
  unfold zdy at h1
  rw [Bool.and_eq_true, Bool.or_eq_true, decide_eq_true_eq, decide_eq_true_eq] at h1
  have h2 : affC l[j] l[j + 1] < 0 := by
   rcases h1.1 with h1 | h1
   ·omega
   ·rw [Nat.add_sub_cancel, List.getD_eq_getElem?_getD, List.getElem?_eq_getElem (by omega)] at h1
    exact h1
  by_cases e : i = j
  ·subst e; exact h2
  ·exact zut (ih (by omega) (by omega)) h2
theorem zqo (x : Adv) (n : Int) (s v : Bs) : ze0 x n s v = covP x n s v := by
 unfold ze0 covP
 by_cases hok : qy x = true
 ·rw [hok, Bool.true_and]
  cases hf : x.aff.find? (ui n s) with
  | none =>
   rw [List.find?_eq_none] at hf
   rw [List.any_eq_false]
   intro a ha
   have := hf a ha
   simp only [Bool.not_eq_true] at this
   rw [this]; simp
  | some a =>
   simp only [Bool.and_true]
   have ha := List.mem_of_find?_eq_some hf
   have hp := List.find?_some hf
   have g0 := aff_asc (kj hok).all
   obtain ⟨i, hi, rfl⟩ := List.mem_iff_getElem.1 ha
   rw [Bool.eq_iff_iff, List.any_eq_true]
   constructor
   ·rintro ⟨b, hb, h⟩
    obtain ⟨j, hj, rfl⟩ := List.mem_iff_getElem.1 hb
    rw [Bool.and_eq_true] at h
    have e : i = j := by
     unfold ui at hp h
     simp only [Bool.and_eq_true, decide_eq_true_eq] at hp h
     rcases Nat.lt_trichotomy i j with q | q | q
     ·exact absurd ⟨by rw [hp.1, h.1.1], by rw [hp.2, h.1.2]⟩ (zts (g0 i j hi hj q))
     ·exact q
     ·exact absurd ⟨by rw [hp.1, h.1.1], by rw [hp.2, h.1.2]⟩ (zts (g0 j i hj hi q))
    subst e
    exact h.2
   ·intro h
    exact ⟨_, ha, by rw [hp, h]; rfl⟩
 ·simp only [Bool.not_eq_true] at hok
  rw [hok, Bool.false_and]
  cases x.aff.find? (ui n s) with
  | none => rfl
  | some a => simp
end V
end Go.Proofs.YtbikeahmldobkaaGreatDoor

/-
  Walk: the reference's Contains of range sets. (Printed by gen_MU.py.)
-/
import Derived.Test.YtpjjkbdkgaehkaaGreatDoorMJ
import Derived.Test.YtpjjkbdkgaehkaaGreatDoorMF
namespace Go.Proofs.YtpjjkbdkgaehkaaGreatDoor
open Go.RowKit

set_option maxRecDepth 100000 in
set_option maxHeartbeats 12800000 in
theorem rrContains_any (n : Int) (v : Value) (l : List V.Itv) (s : V.Bs) (w : World) (hm : MaxOk w) (hv : Itvs w v l) (hs : Lens l) (hl : l.length ≤ maxLen) (hsl : s.length ≤ maxLen) :
    Calls Tryz.prog 43 #[setV n v, .string ⟨s.toArray⟩] w fun e w' => e = .returned (.bool (V.containsL n l s)) ∧ Below w.heap.size w w' := by
  have HV := Lib.hid hv
  obtain ⟨va, vc, rfl⟩ := hv.slice
  have HL := Lib.hid hl
  have HSL := Lib.hid (show (ByteArray.mk s.toArray).size ≤ maxLen by simpa [ByteArray.size] using hsl)
  unfold maxLen at hl
  have HS := Lib.hid hs
  have HF : Hid (V.containsL n l s = (V.okR n l && (V.valid n s && V.hasL n l s))) := Lib.hid rfl
  have hb0 : Below w.heap.size w (w.alloc (.cells #[.int .i64 n, .slice va l.length vc] 39)) := (Below.refl _ w).alloc (Nat.le_refl _) _
  have HB0 := Lib.hid hb0
  have HM := Lib.hid (hm.below hb0)
  have c0 : (w.alloc (.cells #[.int .i64 n, .slice va l.length vc] 39)).cell? ⟨w.heap.size, 0, none⟩ = some (.int .i64 n) := by simp [cell_alloc]
  have c1 : (w.alloc (.cells #[.int .i64 n, .slice va l.length vc] 39)).cell? ⟨w.heap.size, 1, none⟩ = some (.slice va l.length vc) := by simp [cell_alloc]
  have hz0 : w.heap.size < (w.alloc (.cells #[.int .i64 n, .slice va l.length vc] 39)).heap.size := by simp
  clear hv hs hb0 hm hsl
  unfold setV
  go_enter Tryz.func43, Tryz.ntmps43
  go_wp2_with fail
  generalize w.alloc (.cells #[.int .i64 n, .slice va l.length vc] 39) = w0 at *
  refine (rrValid_any n (.slice va l.length vc) l w0 HM.out (HV.out.below HB0.out) HS.out HL.out).mono ?_
  rintro e w1 ⟨rfl, hb1⟩
  have HB1 := Lib.hid (HB0.out.trans (hb1.mono HB0.out.size))
  have HM1 := Lib.hid (HM.out.below hb1)
  have d0 := below_keep hb1 c0
  have d1 := below_keep hb1 c1
  have hz1 : w.heap.size < w1.heap.size := Nat.lt_of_lt_of_le hz0 hb1.size
  clear hb1 c0 c1 hz0 HM
  rcases hok : V.okR n l with _ | _
  · have HR : Hid (V.containsL n l s = false) := Lib.hid (by rw [HF.out, hok]; rfl)
    clear hok
    go_wp2
    go_ret
    exact ⟨ret_bool HR.out.symm, HB1.out⟩
  · have HOK := Lib.hid hok
    clear hok
    go_wp2_with fail
    refine (rvalid_any n ⟨s.toArray⟩ w1 HM1.out HSL.out).mono ?_
    rintro e w2 ⟨rfl, hb2⟩
    rw [bs_mk]
    have HB2 := Lib.hid (HB1.out.trans (hb2.mono HB1.out.size))
    have HM2 := Lib.hid (HM1.out.below hb2)
    have e0 := below_keep hb2 d0
    have e1 := below_keep hb2 d1
    clear hb2 d0 d1 hz1 HM1
    rcases hva : V.valid n s with _ | _
    · have HR : Hid (V.containsL n l s = false) := Lib.hid (by rw [HF.out, HOK.out, hva]; rfl)
      clear hva
      go_wp2
      go_ret
      exact ⟨ret_bool HR.out.symm, HB2.out⟩
    · have HVA := Lib.hid hva
      have HOKS := Lib.hid (V.ok_of HOK.out)
      have HF2 : Hid (V.containsL n l s = l.any (fun x => V.aboveB n s x && V.belowB n s x)) := Lib.hid (by rw [HF.out, HOK.out, hva, ← V.hasR_hasL HOKS.out.sch HOKS.out.bnd hva]; rfl)
      have HVS := Lib.hid (show V.valid n (ByteArray.mk s.toArray).data.toList = true by rw [bs_mk]; exact hva)
      clear hva
      have HE := Lib.hid (And.intro e0 e1)
      go_wp2_with fail
      clear e0 e1
      go_loopw [5] (fun iv wx => ∃ k : Nat, k ≤ l.length ∧ iv = .int .i64 k ∧ (l.take k).any (fun x => V.aboveB n s x && V.belowB n s x) = false ∧ Below w2.heap.size w2 wx) (fun iv _ => l.length - (intOf iv).toNat)
      case atStart => exact ⟨0, Nat.zero_le _, rfl, rfl, Below.refl _ _⟩
      case round =>
        obtain ⟨k, hk, rfl, hz, hbx⟩ := hrel
        have HZ := Lib.hid hz
        have HBX := Lib.hid hbx
        have HBF := Lib.hid (HB2.out.trans (hbx.mono HB2.out.size))
        have d0 := below_keep hbx HE.out.1
        have d1 := below_keep hbx HE.out.2
        clear hz hbx
        by_cases hlt : k < l.length
        · obtain ⟨b, off, rfl, hb0, hx⟩ := HV.out.at k hlt
          obtain ⟨h0, h1, h2, h3⟩ := hx.below hb0 HBF.out
          have hi1 : (0 : Int) ≤ (k : Int) := by omega
          have hi2 : (k : Int) < (l.length : Int) := by omega
          have HBK : Hid (V.boundsB n l[k] = true) := Lib.hid (HOKS.out.bnd _ (List.getElem_mem hlt))
          have HYES := Lib.hid (fun hb => any_step (p := fun x => V.aboveB n s x && V.belowB n s x) HZ.out hlt hb)
          have HNO := Lib.hid (fun hb => any_yes (p := fun x => V.aboveB n s x && V.belowB n s x) hlt hb)
          clear hx
          generalize l[k] = x at *
          have HAF : Hid (V.aboveB n s x = (decide (x.lk = 0) || (decide (0 < V.cmpV n s x.lo) || (decide (V.cmpV n s x.lo = 0) && decide (x.lk = 1))))) := Lib.hid rfl
          have HBLF : Hid (V.belowB n s x = (decide (x.hk = 0) || (decide (V.cmpV n s x.hi < 0) || (decide (V.cmpV n s x.hi = 0) && decide (x.hk = 1))))) := Lib.hid rfl
          have hbA : Below wr.heap.size wr (wr.alloc (.cells #[.string ⟨x.lo.toArray⟩, .int .i64 x.lk, .string ⟨x.hi.toArray⟩, .int .i64 x.hk] 80)) := (Below.refl _ wr).alloc (Nat.le_refl _) _
          have HM1 := Lib.hid ((HM2.out.below HBX.out).below hbA)
          have HBA := Lib.hid (HBX.out.trans (hbA.mono HBX.out.size))
          have m0 := below_keep hbA d0
          have hx4 : ItvAt (wr.alloc (.cells #[.string ⟨x.lo.toArray⟩, .int .i64 x.lk, .string ⟨x.hi.toArray⟩, .int .i64 x.hk] 80)) wr.heap.size 0 x := by
            refine ⟨?_, ?_, ?_, ?_⟩ <;> simp [cell_alloc]
          have HX4 := Lib.hid hx4
          clear hbA hx4
          rcases hklk : (x.lk == 0) with _ | _
          · have hnlk : (x.lk != 0) = true := by simpa using hklk
            rcases hkhk : (x.hk == 0) with _ | _
            · have hnhk : (x.hk != 0) = true := by simpa using hkhk
              go_wp2_with fail
              generalize wr.alloc (.cells #[.string ⟨x.lo.toArray⟩, .int .i64 x.lk, .string ⟨x.hi.toArray⟩, .int .i64 x.hk] 80) = W1 at *
              obtain ⟨f0, f1, f2, f3⟩ := HX4.out
              rw [Nat.zero_add] at f1 f2 f3
              clear h0 h1 h2 h3 d0 d1
              refine (rOrder_any n ⟨s.toArray⟩ ⟨x.lo.toArray⟩ W1 HM1.out HOKS.out.sch HVS.out (show V.valid n (ByteArray.mk x.lo.toArray).data.toList = true by rw [bs_mk]; exact V.low_valid HBK.out (by simpa using hklk))).mono ?_
              rintro e W2 ⟨rfl, hbo⟩
              rw [bs_mk, bs_mk]
              replace m0 := below_keep hbo m0
              replace f0 := below_keep hbo f0
              replace f1 := below_keep hbo f1
              replace f2 := below_keep hbo f2
              replace f3 := below_keep hbo f3
              have HBAo := Lib.hid (HBA.out.trans (hbo.mono HBA.out.size))
              have HM1o := Lib.hid (HM1.out.below hbo)
              clear hbo
              obtain ⟨za, hza⟩ : ∃ z, z = V.cmpV n s x.lo := ⟨_, rfl⟩
              rw [← hza] at HAF ⊢
              clear hza
              have HAF2 : Hid (V.aboveB n s x = (decide (0 < za) || (decide (za = 0) && decide (x.lk = 1)))) := Lib.hid (by rw [HAF.out, decide_eq_false (show ¬ x.lk = 0 by simpa using hklk), Bool.false_or])
              rcases Int.lt_trichotomy za 0 with hc | hc | hc
              · have zaa : decide (0 < za) = false := decide_eq_false (by omega)
                have zab : (za == 0) = false := by rw [beq_eq_false_iff_ne]; omega
                have HAB : Hid (V.aboveB n s x = false) := Lib.hid (by rw [HAF2.out, zaa, decide_eq_false (show ¬ za = 0 by omega)]; rfl)
                clear hc
                go_wp2_with fail
                refine (rOrder_any n ⟨s.toArray⟩ ⟨x.hi.toArray⟩ W2 HM1o.out HOKS.out.sch HVS.out (show V.valid n (ByteArray.mk x.hi.toArray).data.toList = true by rw [bs_mk]; exact V.high_valid HBK.out (by simpa using hkhk))).mono ?_
                rintro e W2h ⟨rfl, hbo⟩
                rw [bs_mk, bs_mk]
                replace m0 := below_keep hbo m0
                replace f0 := below_keep hbo f0
                replace f1 := below_keep hbo f1
                replace f2 := below_keep hbo f2
                replace f3 := below_keep hbo f3
                have HBAoo := Lib.hid (HBAo.out.trans (hbo.mono HBAo.out.size))
                have HM1oo := Lib.hid (HM1o.out.below hbo)
                clear hbo
                obtain ⟨zb, hzb⟩ : ∃ z, z = V.cmpV n s x.hi := ⟨_, rfl⟩
                rw [← hzb] at HBLF ⊢
                clear hzb
                have HBLF2 : Hid (V.belowB n s x = (decide (zb < 0) || (decide (zb = 0) && decide (x.hk = 1)))) := Lib.hid (by rw [HBLF.out, decide_eq_false (show ¬ x.hk = 0 by simpa using hkhk), Bool.false_or])
                rcases Int.lt_trichotomy zb 0 with hc | hc | hc
                · have zba : decide (zb < 0) = true := decide_eq_true hc
                  have zbb : (zb == 0) = false := by rw [beq_eq_false_iff_ne]; omega
                  have HBB : Hid (V.belowB n s x = true) := Lib.hid (by rw [HBLF2.out, zba, decide_eq_false (show ¬ zb = 0 by omega)]; rfl)
                  clear hc
                  have HY := Lib.hid (HYES.out (by rw [HAB.out, HBB.out]; rfl))
                  go_wp2
                  go_roundw
                  case rel => exact ⟨k + 1, by omega, by go_num, HY.out, HBAoo.out⟩
                  case measure => simp [intOf]; omega
                · subst hc
                  rcases hqhk : (x.hk == 1) with _ | _
                  · have HBB : Hid (V.belowB n s x = false) := Lib.hid (by rw [HBLF2.out, decide_eq_false (show ¬ x.hk = 1 by simpa using hqhk)]; rfl)
                    have HY := Lib.hid (HYES.out (by rw [HAB.out, HBB.out]; rfl))
                    go_wp2
                    go_roundw
                    case rel => exact ⟨k + 1, by omega, by go_num, HY.out, HBAoo.out⟩
                    case measure => simp [intOf]; omega
                  · have HBB : Hid (V.belowB n s x = true) := Lib.hid (by rw [HBLF2.out, decide_eq_true (eq_of_beq hqhk)]; rfl)
                    have HY := Lib.hid (HYES.out (by rw [HAB.out, HBB.out]; rfl))
                    go_wp2
                    go_roundw
                    case rel => exact ⟨k + 1, by omega, by go_num, HY.out, HBAoo.out⟩
                    case measure => simp [intOf]; omega
                · have zba : decide (zb < 0) = false := decide_eq_false (by omega)
                  have zbb : (zb == 0) = false := by rw [beq_eq_false_iff_ne]; omega
                  have HBB : Hid (V.belowB n s x = false) := Lib.hid (by rw [HBLF2.out, zba, decide_eq_false (show ¬ zb = 0 by omega)]; rfl)
                  clear hc
                  have HY := Lib.hid (HYES.out (by rw [HAB.out, HBB.out]; rfl))
                  go_wp2
                  go_roundw
                  case rel => exact ⟨k + 1, by omega, by go_num, HY.out, HBAoo.out⟩
                  case measure => simp [intOf]; omega
              · subst hc
                rcases hqlk : (x.lk == 1) with _ | _
                · have HAB : Hid (V.aboveB n s x = false) := Lib.hid (by rw [HAF2.out, decide_eq_false (show ¬ x.lk = 1 by simpa using hqlk)]; rfl)
                  go_wp2_with fail
                  refine (rOrder_any n ⟨s.toArray⟩ ⟨x.hi.toArray⟩ W2 HM1o.out HOKS.out.sch HVS.out (show V.valid n (ByteArray.mk x.hi.toArray).data.toList = true by rw [bs_mk]; exact V.high_valid HBK.out (by simpa using hkhk))).mono ?_
                  rintro e W2h ⟨rfl, hbo⟩
                  rw [bs_mk, bs_mk]
                  replace m0 := below_keep hbo m0
                  replace f0 := below_keep hbo f0
                  replace f1 := below_keep hbo f1
                  replace f2 := below_keep hbo f2
                  replace f3 := below_keep hbo f3
                  have HBAoo := Lib.hid (HBAo.out.trans (hbo.mono HBAo.out.size))
                  have HM1oo := Lib.hid (HM1o.out.below hbo)
                  clear hbo
                  obtain ⟨zb, hzb⟩ : ∃ z, z = V.cmpV n s x.hi := ⟨_, rfl⟩
                  rw [← hzb] at HBLF ⊢
                  clear hzb
                  have HBLF2 : Hid (V.belowB n s x = (decide (zb < 0) || (decide (zb = 0) && decide (x.hk = 1)))) := Lib.hid (by rw [HBLF.out, decide_eq_false (show ¬ x.hk = 0 by simpa using hkhk), Bool.false_or])
                  rcases Int.lt_trichotomy zb 0 with hc | hc | hc
                  · have zba : decide (zb < 0) = true := decide_eq_true hc
                    have zbb : (zb == 0) = false := by rw [beq_eq_false_iff_ne]; omega
                    have HBB : Hid (V.belowB n s x = true) := Lib.hid (by rw [HBLF2.out, zba, decide_eq_false (show ¬ zb = 0 by omega)]; rfl)
                    clear hc
                    have HY := Lib.hid (HYES.out (by rw [HAB.out, HBB.out]; rfl))
                    go_wp2
                    go_roundw
                    case rel => exact ⟨k + 1, by omega, by go_num, HY.out, HBAoo.out⟩
                    case measure => simp [intOf]; omega
                  · subst hc
                    rcases hqhk : (x.hk == 1) with _ | _
                    · have HBB : Hid (V.belowB n s x = false) := Lib.hid (by rw [HBLF2.out, decide_eq_false (show ¬ x.hk = 1 by simpa using hqhk)]; rfl)
                      have HY := Lib.hid (HYES.out (by rw [HAB.out, HBB.out]; rfl))
                      go_wp2
                      go_roundw
                      case rel => exact ⟨k + 1, by omega, by go_num, HY.out, HBAoo.out⟩
                      case measure => simp [intOf]; omega
                    · have HBB : Hid (V.belowB n s x = true) := Lib.hid (by rw [HBLF2.out, decide_eq_true (eq_of_beq hqhk)]; rfl)
                      have HY := Lib.hid (HYES.out (by rw [HAB.out, HBB.out]; rfl))
                      go_wp2
                      go_roundw
                      case rel => exact ⟨k + 1, by omega, by go_num, HY.out, HBAoo.out⟩
                      case measure => simp [intOf]; omega
                  · have zba : decide (zb < 0) = false := decide_eq_false (by omega)
                    have zbb : (zb == 0) = false := by rw [beq_eq_false_iff_ne]; omega
                    have HBB : Hid (V.belowB n s x = false) := Lib.hid (by rw [HBLF2.out, zba, decide_eq_false (show ¬ zb = 0 by omega)]; rfl)
                    clear hc
                    have HY := Lib.hid (HYES.out (by rw [HAB.out, HBB.out]; rfl))
                    go_wp2
                    go_roundw
                    case rel => exact ⟨k + 1, by omega, by go_num, HY.out, HBAoo.out⟩
                    case measure => simp [intOf]; omega
                · have HAB : Hid (V.aboveB n s x = true) := Lib.hid (by rw [HAF2.out, decide_eq_true (eq_of_beq hqlk)]; rfl)
                  go_wp2_with fail
                  refine (rOrder_any n ⟨s.toArray⟩ ⟨x.hi.toArray⟩ W2 HM1o.out HOKS.out.sch HVS.out (show V.valid n (ByteArray.mk x.hi.toArray).data.toList = true by rw [bs_mk]; exact V.high_valid HBK.out (by simpa using hkhk))).mono ?_
                  rintro e W2h ⟨rfl, hbo⟩
                  rw [bs_mk, bs_mk]
                  replace m0 := below_keep hbo m0
                  replace f0 := below_keep hbo f0
                  replace f1 := below_keep hbo f1
                  replace f2 := below_keep hbo f2
                  replace f3 := below_keep hbo f3
                  have HBAoo := Lib.hid (HBAo.out.trans (hbo.mono HBAo.out.size))
                  have HM1oo := Lib.hid (HM1o.out.below hbo)
                  clear hbo
                  obtain ⟨zb, hzb⟩ : ∃ z, z = V.cmpV n s x.hi := ⟨_, rfl⟩
                  rw [← hzb] at HBLF ⊢
                  clear hzb
                  have HBLF2 : Hid (V.belowB n s x = (decide (zb < 0) || (decide (zb = 0) && decide (x.hk = 1)))) := Lib.hid (by rw [HBLF.out, decide_eq_false (show ¬ x.hk = 0 by simpa using hkhk), Bool.false_or])
                  rcases Int.lt_trichotomy zb 0 with hc | hc | hc
                  · have zba : decide (zb < 0) = true := decide_eq_true hc
                    have zbb : (zb == 0) = false := by rw [beq_eq_false_iff_ne]; omega
                    have HBB : Hid (V.belowB n s x = true) := Lib.hid (by rw [HBLF2.out, zba, decide_eq_false (show ¬ zb = 0 by omega)]; rfl)
                    clear hc
                    have HR : Hid (V.containsL n l s = true) := Lib.hid (by rw [HF2.out]; exact HNO.out (by rw [HAB.out, HBB.out]; rfl))
                    go_wp2
                    go_ret
                    exact ⟨ret_bool HR.out.symm, HB2.out.trans (HBAoo.out.mono HB2.out.size)⟩
                  · subst hc
                    rcases hqhk : (x.hk == 1) with _ | _
                    · have HBB : Hid (V.belowB n s x = false) := Lib.hid (by rw [HBLF2.out, decide_eq_false (show ¬ x.hk = 1 by simpa using hqhk)]; rfl)
                      have HY := Lib.hid (HYES.out (by rw [HAB.out, HBB.out]; rfl))
                      go_wp2
                      go_roundw
                      case rel => exact ⟨k + 1, by omega, by go_num, HY.out, HBAoo.out⟩
                      case measure => simp [intOf]; omega
                    · have HBB : Hid (V.belowB n s x = true) := Lib.hid (by rw [HBLF2.out, decide_eq_true (eq_of_beq hqhk)]; rfl)
                      have HR : Hid (V.containsL n l s = true) := Lib.hid (by rw [HF2.out]; exact HNO.out (by rw [HAB.out, HBB.out]; rfl))
                      go_wp2
                      go_ret
                      exact ⟨ret_bool HR.out.symm, HB2.out.trans (HBAoo.out.mono HB2.out.size)⟩
                  · have zba : decide (zb < 0) = false := decide_eq_false (by omega)
                    have zbb : (zb == 0) = false := by rw [beq_eq_false_iff_ne]; omega
                    have HBB : Hid (V.belowB n s x = false) := Lib.hid (by rw [HBLF2.out, zba, decide_eq_false (show ¬ zb = 0 by omega)]; rfl)
                    clear hc
                    have HY := Lib.hid (HYES.out (by rw [HAB.out, HBB.out]; rfl))
                    go_wp2
                    go_roundw
                    case rel => exact ⟨k + 1, by omega, by go_num, HY.out, HBAoo.out⟩
                    case measure => simp [intOf]; omega
              · have zaa : decide (0 < za) = true := decide_eq_true hc
                have zab : (za == 0) = false := by rw [beq_eq_false_iff_ne]; omega
                have HAB : Hid (V.aboveB n s x = true) := Lib.hid (by rw [HAF2.out, zaa, decide_eq_false (show ¬ za = 0 by omega)]; rfl)
                clear hc
                go_wp2_with fail
                refine (rOrder_any n ⟨s.toArray⟩ ⟨x.hi.toArray⟩ W2 HM1o.out HOKS.out.sch HVS.out (show V.valid n (ByteArray.mk x.hi.toArray).data.toList = true by rw [bs_mk]; exact V.high_valid HBK.out (by simpa using hkhk))).mono ?_
                rintro e W2h ⟨rfl, hbo⟩
                rw [bs_mk, bs_mk]
                replace m0 := below_keep hbo m0
                replace f0 := below_keep hbo f0
                replace f1 := below_keep hbo f1
                replace f2 := below_keep hbo f2
                replace f3 := below_keep hbo f3
                have HBAoo := Lib.hid (HBAo.out.trans (hbo.mono HBAo.out.size))
                have HM1oo := Lib.hid (HM1o.out.below hbo)
                clear hbo
                obtain ⟨zb, hzb⟩ : ∃ z, z = V.cmpV n s x.hi := ⟨_, rfl⟩
                rw [← hzb] at HBLF ⊢
                clear hzb
                have HBLF2 : Hid (V.belowB n s x = (decide (zb < 0) || (decide (zb = 0) && decide (x.hk = 1)))) := Lib.hid (by rw [HBLF.out, decide_eq_false (show ¬ x.hk = 0 by simpa using hkhk), Bool.false_or])
                rcases Int.lt_trichotomy zb 0 with hc | hc | hc
                · have zba : decide (zb < 0) = true := decide_eq_true hc
                  have zbb : (zb == 0) = false := by rw [beq_eq_false_iff_ne]; omega
                  have HBB : Hid (V.belowB n s x = true) := Lib.hid (by rw [HBLF2.out, zba, decide_eq_false (show ¬ zb = 0 by omega)]; rfl)
                  clear hc
                  have HR : Hid (V.containsL n l s = true) := Lib.hid (by rw [HF2.out]; exact HNO.out (by rw [HAB.out, HBB.out]; rfl))
                  go_wp2
                  go_ret
                  exact ⟨ret_bool HR.out.symm, HB2.out.trans (HBAoo.out.mono HB2.out.size)⟩
                · subst hc
                  rcases hqhk : (x.hk == 1) with _ | _
                  · have HBB : Hid (V.belowB n s x = false) := Lib.hid (by rw [HBLF2.out, decide_eq_false (show ¬ x.hk = 1 by simpa using hqhk)]; rfl)
                    have HY := Lib.hid (HYES.out (by rw [HAB.out, HBB.out]; rfl))
                    go_wp2
                    go_roundw
                    case rel => exact ⟨k + 1, by omega, by go_num, HY.out, HBAoo.out⟩
                    case measure => simp [intOf]; omega
                  · have HBB : Hid (V.belowB n s x = true) := Lib.hid (by rw [HBLF2.out, decide_eq_true (eq_of_beq hqhk)]; rfl)
                    have HR : Hid (V.containsL n l s = true) := Lib.hid (by rw [HF2.out]; exact HNO.out (by rw [HAB.out, HBB.out]; rfl))
                    go_wp2
                    go_ret
                    exact ⟨ret_bool HR.out.symm, HB2.out.trans (HBAoo.out.mono HB2.out.size)⟩
                · have zba : decide (zb < 0) = false := decide_eq_false (by omega)
                  have zbb : (zb == 0) = false := by rw [beq_eq_false_iff_ne]; omega
                  have HBB : Hid (V.belowB n s x = false) := Lib.hid (by rw [HBLF2.out, zba, decide_eq_false (show ¬ zb = 0 by omega)]; rfl)
                  clear hc
                  have HY := Lib.hid (HYES.out (by rw [HAB.out, HBB.out]; rfl))
                  go_wp2
                  go_roundw
                  case rel => exact ⟨k + 1, by omega, by go_num, HY.out, HBAoo.out⟩
                  case measure => simp [intOf]; omega
            · have hnhk : (x.hk != 0) = false := by simpa using hkhk
              have HBB : Hid (V.belowB n s x = true) := Lib.hid (by rw [HBLF.out, decide_eq_true (eq_of_beq hkhk)]; rfl)
              go_wp2_with fail
              generalize wr.alloc (.cells #[.string ⟨x.lo.toArray⟩, .int .i64 x.lk, .string ⟨x.hi.toArray⟩, .int .i64 x.hk] 80) = W1 at *
              obtain ⟨f0, f1, f2, f3⟩ := HX4.out
              rw [Nat.zero_add] at f1 f2 f3
              clear h0 h1 h2 h3 d0 d1
              refine (rOrder_any n ⟨s.toArray⟩ ⟨x.lo.toArray⟩ W1 HM1.out HOKS.out.sch HVS.out (show V.valid n (ByteArray.mk x.lo.toArray).data.toList = true by rw [bs_mk]; exact V.low_valid HBK.out (by simpa using hklk))).mono ?_
              rintro e W2 ⟨rfl, hbo⟩
              rw [bs_mk, bs_mk]
              replace m0 := below_keep hbo m0
              replace f0 := below_keep hbo f0
              replace f1 := below_keep hbo f1
              replace f2 := below_keep hbo f2
              replace f3 := below_keep hbo f3
              have HBAo := Lib.hid (HBA.out.trans (hbo.mono HBA.out.size))
              have HM1o := Lib.hid (HM1.out.below hbo)
              clear hbo
              obtain ⟨za, hza⟩ : ∃ z, z = V.cmpV n s x.lo := ⟨_, rfl⟩
              rw [← hza] at HAF ⊢
              clear hza
              have HAF2 : Hid (V.aboveB n s x = (decide (0 < za) || (decide (za = 0) && decide (x.lk = 1)))) := Lib.hid (by rw [HAF.out, decide_eq_false (show ¬ x.lk = 0 by simpa using hklk), Bool.false_or])
              rcases Int.lt_trichotomy za 0 with hc | hc | hc
              · have zaa : decide (0 < za) = false := decide_eq_false (by omega)
                have zab : (za == 0) = false := by rw [beq_eq_false_iff_ne]; omega
                have HAB : Hid (V.aboveB n s x = false) := Lib.hid (by rw [HAF2.out, zaa, decide_eq_false (show ¬ za = 0 by omega)]; rfl)
                clear hc
                have HY := Lib.hid (HYES.out (by rw [HAB.out, HBB.out]; rfl))
                go_wp2
                go_roundw
                case rel => exact ⟨k + 1, by omega, by go_num, HY.out, HBAo.out⟩
                case measure => simp [intOf]; omega
              · subst hc
                rcases hqlk : (x.lk == 1) with _ | _
                · have HAB : Hid (V.aboveB n s x = false) := Lib.hid (by rw [HAF2.out, decide_eq_false (show ¬ x.lk = 1 by simpa using hqlk)]; rfl)
                  have HY := Lib.hid (HYES.out (by rw [HAB.out, HBB.out]; rfl))
                  go_wp2
                  go_roundw
                  case rel => exact ⟨k + 1, by omega, by go_num, HY.out, HBAo.out⟩
                  case measure => simp [intOf]; omega
                · have HAB : Hid (V.aboveB n s x = true) := Lib.hid (by rw [HAF2.out, decide_eq_true (eq_of_beq hqlk)]; rfl)
                  have HR : Hid (V.containsL n l s = true) := Lib.hid (by rw [HF2.out]; exact HNO.out (by rw [HAB.out, HBB.out]; rfl))
                  go_wp2
                  go_ret
                  exact ⟨ret_bool HR.out.symm, HB2.out.trans (HBAo.out.mono HB2.out.size)⟩
              · have zaa : decide (0 < za) = true := decide_eq_true hc
                have zab : (za == 0) = false := by rw [beq_eq_false_iff_ne]; omega
                have HAB : Hid (V.aboveB n s x = true) := Lib.hid (by rw [HAF2.out, zaa, decide_eq_false (show ¬ za = 0 by omega)]; rfl)
                clear hc
                have HR : Hid (V.containsL n l s = true) := Lib.hid (by rw [HF2.out]; exact HNO.out (by rw [HAB.out, HBB.out]; rfl))
                go_wp2
                go_ret
                exact ⟨ret_bool HR.out.symm, HB2.out.trans (HBAo.out.mono HB2.out.size)⟩
          · have hnlk : (x.lk != 0) = false := by simpa using hklk
            have HAB : Hid (V.aboveB n s x = true) := Lib.hid (by rw [HAF.out, decide_eq_true (eq_of_beq hklk)]; rfl)
            rcases hkhk : (x.hk == 0) with _ | _
            · have hnhk : (x.hk != 0) = true := by simpa using hkhk
              go_wp2_with fail
              generalize wr.alloc (.cells #[.string ⟨x.lo.toArray⟩, .int .i64 x.lk, .string ⟨x.hi.toArray⟩, .int .i64 x.hk] 80) = W1 at *
              obtain ⟨f0, f1, f2, f3⟩ := HX4.out
              rw [Nat.zero_add] at f1 f2 f3
              clear h0 h1 h2 h3 d0 d1
              refine (rOrder_any n ⟨s.toArray⟩ ⟨x.hi.toArray⟩ W1 HM1.out HOKS.out.sch HVS.out (show V.valid n (ByteArray.mk x.hi.toArray).data.toList = true by rw [bs_mk]; exact V.high_valid HBK.out (by simpa using hkhk))).mono ?_
              rintro e W1h ⟨rfl, hbo⟩
              rw [bs_mk, bs_mk]
              replace m0 := below_keep hbo m0
              replace f0 := below_keep hbo f0
              replace f1 := below_keep hbo f1
              replace f2 := below_keep hbo f2
              replace f3 := below_keep hbo f3
              have HBAo := Lib.hid (HBA.out.trans (hbo.mono HBA.out.size))
              have HM1o := Lib.hid (HM1.out.below hbo)
              clear hbo
              obtain ⟨zb, hzb⟩ : ∃ z, z = V.cmpV n s x.hi := ⟨_, rfl⟩
              rw [← hzb] at HBLF ⊢
              clear hzb
              have HBLF2 : Hid (V.belowB n s x = (decide (zb < 0) || (decide (zb = 0) && decide (x.hk = 1)))) := Lib.hid (by rw [HBLF.out, decide_eq_false (show ¬ x.hk = 0 by simpa using hkhk), Bool.false_or])
              rcases Int.lt_trichotomy zb 0 with hc | hc | hc
              · have zba : decide (zb < 0) = true := decide_eq_true hc
                have zbb : (zb == 0) = false := by rw [beq_eq_false_iff_ne]; omega
                have HBB : Hid (V.belowB n s x = true) := Lib.hid (by rw [HBLF2.out, zba, decide_eq_false (show ¬ zb = 0 by omega)]; rfl)
                clear hc
                have HR : Hid (V.containsL n l s = true) := Lib.hid (by rw [HF2.out]; exact HNO.out (by rw [HAB.out, HBB.out]; rfl))
                go_wp2
                go_ret
                exact ⟨ret_bool HR.out.symm, HB2.out.trans (HBAo.out.mono HB2.out.size)⟩
              · subst hc
                rcases hqhk : (x.hk == 1) with _ | _
                · have HBB : Hid (V.belowB n s x = false) := Lib.hid (by rw [HBLF2.out, decide_eq_false (show ¬ x.hk = 1 by simpa using hqhk)]; rfl)
                  have HY := Lib.hid (HYES.out (by rw [HAB.out, HBB.out]; rfl))
                  go_wp2
                  go_roundw
                  case rel => exact ⟨k + 1, by omega, by go_num, HY.out, HBAo.out⟩
                  case measure => simp [intOf]; omega
                · have HBB : Hid (V.belowB n s x = true) := Lib.hid (by rw [HBLF2.out, decide_eq_true (eq_of_beq hqhk)]; rfl)
                  have HR : Hid (V.containsL n l s = true) := Lib.hid (by rw [HF2.out]; exact HNO.out (by rw [HAB.out, HBB.out]; rfl))
                  go_wp2
                  go_ret
                  exact ⟨ret_bool HR.out.symm, HB2.out.trans (HBAo.out.mono HB2.out.size)⟩
              · have zba : decide (zb < 0) = false := decide_eq_false (by omega)
                have zbb : (zb == 0) = false := by rw [beq_eq_false_iff_ne]; omega
                have HBB : Hid (V.belowB n s x = false) := Lib.hid (by rw [HBLF2.out, zba, decide_eq_false (show ¬ zb = 0 by omega)]; rfl)
                clear hc
                have HY := Lib.hid (HYES.out (by rw [HAB.out, HBB.out]; rfl))
                go_wp2
                go_roundw
                case rel => exact ⟨k + 1, by omega, by go_num, HY.out, HBAo.out⟩
                case measure => simp [intOf]; omega
            · have hnhk : (x.hk != 0) = false := by simpa using hkhk
              have HBB : Hid (V.belowB n s x = true) := Lib.hid (by rw [HBLF.out, decide_eq_true (eq_of_beq hkhk)]; rfl)
              have HR : Hid (V.containsL n l s = true) := Lib.hid (by rw [HF2.out]; exact HNO.out (by rw [HAB.out, HBB.out]; rfl))
              go_wp2
              go_ret
              exact ⟨ret_bool HR.out.symm, HB2.out.trans (HBA.out.mono HB2.out.size)⟩
        · obtain rfl : k = l.length := by omega
          have HR : Hid (V.containsL n l s = false) := Lib.hid (by rw [HF2.out]; have := HZ.out; rwa [List.take_length] at this)
          go_wp2
          go_ret
          exact ⟨ret_bool HR.out.symm, HBF.out⟩
end Go.Proofs.YtpjjkbdkgaehkaaGreatDoor

/-
  Walk: Contains of package ranges.
  Walk: borders of package ranges.
  Walk: built of package ranges.
-/
import Derived.Test.YtolojkkhmamddaaGreatDoorMC
import Derived.Test.YtolojkkhmamddaaGreatDoorMK
import Derived.Test.YtolojkkhmamddaaGreatDoorU9
namespace Go.Proofs.YtolojkkhmamddaaGreatDoor
open Go.RowKit

theorem below4 {W0 wa wb wq : World} (hba : Below W0.drew.heap.size W0.drew wa) (hbb : Below wa.heap.size wa wb) (hbq : Below wb.heap.size wb wq) : Below W0.heap.size W0 wq :=
  ((Below.refl W0.heap.size W0).drew).trans (Below.trans (show Below W0.heap.size W0.drew wa from hba) ((hbb.trans (hbq.mono hbb.size)).mono hba.size))
theorem below3 {W0 wa wq : World} (hba : Below W0.drew.heap.size W0.drew wa) (hbq : Below wa.heap.size wa wq) : Below W0.heap.size W0 wq :=
  ((Below.refl W0.heap.size W0).drew).trans (Below.trans (show Below W0.heap.size W0.drew wa from hba) (hbq.mono hba.size))
def hasF (n : Int) (v : V.Bs) (x : V.Itv) : Bool := (decide (x.lk = 0) || decide (V.cutC n x.low (v, false) ≤ 0)) && (decide (x.hk = 0) || decide (0 ≤ V.cutC n x.high (v, true)))
theorem any_step {α : Type} {p : α → Bool} {l : List α} {k : Nat} (h : (l.take k).any p = false) (hk : k < l.length) (hb : p l[k] = false) : (l.take (k + 1)).any p = false := by
  rw [List.take_succ_eq_append_getElem hk, List.any_append, h]
  simpa using hb
theorem any_yes {α : Type} {p : α → Bool} {l : List α} {k : Nat} (hk : k < l.length) (hb : p l[k] = true) : l.any p = true :=
  List.any_eq_true.2 ⟨l[k], List.getElem_mem hk, hb⟩

set_option maxRecDepth 100000 in
set_option maxHeartbeats 3200000 in
theorem rgContains_any (n : Int) (v : Value) (l : List V.Itv) (s : V.Bs) (w : World) (hm : MaxOk w) (hv : Itvs w v l) (hs : Lens l) (hl : l.length ≤ maxLen) (hsl : s.length ≤ maxLen) :
    Calls Tryz.prog 15 #[setV n v, .string ⟨s.toArray⟩] w fun e w' => e = .returned (.bool (V.containsL n l s)) ∧ Below w.heap.size w w' := by
  have HV := Lib.hid hv
  obtain ⟨va, vc, rfl⟩ := hv.slice
  have HL := Lib.hid hl
  have HSL := Lib.hid (show (ByteArray.mk s.toArray).size ≤ maxLen by simpa [ByteArray.size] using hsl)
  unfold maxLen at hl
  have HS := Lib.hid hs
  have HF : Hid (V.containsL n l s = (V.okR n l && (V.valid n s && l.any (hasF n s)))) := Lib.hid rfl
  have hb0 : Below w.heap.size w (w.alloc (.cells #[.int .i64 n, .slice va l.length vc] 25)) := (Below.refl _ w).alloc (Nat.le_refl _) _
  have HB0 := Lib.hid hb0
  have HM := Lib.hid (hm.below hb0)
  have c0 : (w.alloc (.cells #[.int .i64 n, .slice va l.length vc] 25)).cell? ⟨w.heap.size, 0, none⟩ = some (.int .i64 n) := by simp [cell_alloc]
  have c1 : (w.alloc (.cells #[.int .i64 n, .slice va l.length vc] 25)).cell? ⟨w.heap.size, 1, none⟩ = some (.slice va l.length vc) := by simp [cell_alloc]
  have hz0 : w.heap.size < (w.alloc (.cells #[.int .i64 n, .slice va l.length vc] 25)).heap.size := by simp
  clear hv hs hb0 hm hsl
  unfold setV
  go_enter Tryz.func15, Tryz.ntmps15
  go_wp2_with fail
  generalize w.alloc (.cells #[.int .i64 n, .slice va l.length vc] 25) = w0 at *
  refine (rgValid_any n (.slice va l.length vc) l w0 HM.out (HV.out.below HB0.out) HS.out HL.out).mono ?_
  rintro e w1 ⟨rfl, hb1⟩
  have HB1 := Lib.hid (HB0.out.trans (hb1.mono HB0.out.size))
  have HM1 := Lib.hid (HM.out.below hb1)
  have d0 := below_keep hb1 c0
  have d1 := below_keep hb1 c1
  have hz1 : w.heap.size < w1.heap.size := Nat.lt_of_lt_of_le hz0 hb1.size
  clear hb1 c0 c1 hz0 HM
  rcases hok : V.okR n l with _ | _
  · have HR : Hid (V.containsL n l s = false) := Lib.hid (by rw [HF.out, hok]; rfl)
    clear hok
    go_wp2
    go_ret
    exact ⟨ret_bool HR.out.symm, HB1.out⟩
  · have HOK := Lib.hid hok
    clear hok
    go_wp2_with fail
    refine (valid_any n ⟨s.toArray⟩ w1 HM1.out HSL.out).mono ?_
    rintro e w2 ⟨rfl, hb2⟩
    rw [bs_mk]
    have HB2 := Lib.hid (HB1.out.trans (hb2.mono HB1.out.size))
    have HM2 := Lib.hid (HM1.out.below hb2)
    have e0 := below_keep hb2 d0
    have e1 := below_keep hb2 d1
    have hz2 : w.heap.size < w2.heap.size := Nat.lt_of_lt_of_le hz1 hb2.size
    clear hb2 d0 d1 hz1 HM1
    rcases hva : V.valid n s with _ | _
    · have HR : Hid (V.containsL n l s = false) := Lib.hid (by rw [HF.out, HOK.out, hva]; rfl)
      clear hva
      go_wp2
      go_ret
      exact ⟨ret_bool HR.out.symm, HB2.out⟩
    · have HVA := Lib.hid hva
      have HF2 : Hid (V.containsL n l s = l.any (hasF n s)) := Lib.hid (by rw [HF.out, HOK.out, hva]; rfl)
      clear hva
      have HOKS := Lib.hid (V.ok_of HOK.out)
      obtain ⟨hbA, hcA, _, hzA⟩ := two_alloc w2 #[.string ⟨s.toArray⟩, .bool false] #[.string ⟨s.toArray⟩, .bool true] 62 62
      have p0 : ((w2.alloc (.cells #[.string ⟨s.toArray⟩, .bool false] 62)).alloc (.cells #[.string ⟨s.toArray⟩, .bool true] 62)).cell? ⟨w2.heap.size, 0, none⟩ = some (.string ⟨s.toArray⟩) := by simp [cell_alloc]
      have p1 : ((w2.alloc (.cells #[.string ⟨s.toArray⟩, .bool false] 62)).alloc (.cells #[.string ⟨s.toArray⟩, .bool true] 62)).cell? ⟨w2.heap.size, 1, none⟩ = some (.bool false) := by simp [cell_alloc]
      have q0 : ((w2.alloc (.cells #[.string ⟨s.toArray⟩, .bool false] 62)).alloc (.cells #[.string ⟨s.toArray⟩, .bool true] 62)).cell? ⟨w2.heap.size + 1, 0, none⟩ = some (.string ⟨s.toArray⟩) := by rw [hcA 0]; rfl
      have q1 : ((w2.alloc (.cells #[.string ⟨s.toArray⟩, .bool false] 62)).alloc (.cells #[.string ⟨s.toArray⟩, .bool true] 62)).cell? ⟨w2.heap.size + 1, 1, none⟩ = some (.bool true) := by rw [hcA 1]; rfl
      have f0 := below_keep hbA e0
      have f1 := below_keep hbA e1
      have HB3 := Lib.hid (HB2.out.trans (hbA.mono HB2.out.size))
      have HM3 := Lib.hid (HM2.out.below hbA)
      have HPQ := Lib.hid (And.intro f0 (And.intro p0 (And.intro p1 (And.intro q0 q1))))
      clear hcA p0 p1 q0 q1 f0 e0 hzA hbA HM2
      go_wp2
      clear f1 e1
      generalize (w2.alloc (.cells #[.string ⟨s.toArray⟩, .bool false] 62)).alloc (.cells #[.string ⟨s.toArray⟩, .bool true] 62) = W at *
      go_loopw [28] (fun iv wx => ∃ k : Nat, k ≤ l.length ∧ iv = .int .i64 k ∧ (l.take k).any (hasF n s) = false ∧ Below W.heap.size W wx) (fun iv _ => l.length - (intOf iv).toNat)
      case atStart => exact ⟨0, Nat.zero_le _, rfl, rfl, Below.refl _ _⟩
      case round =>
        obtain ⟨k, hk, rfl, hz, hbx⟩ := hrel
        have HZ := Lib.hid hz
        have HBX := Lib.hid hbx
        have HBF := Lib.hid (HB3.out.trans (hbx.mono HB3.out.size))
        clear hz hbx
        by_cases hlt : k < l.length
        · obtain ⟨b, off, rfl, hb0, hx⟩ := HV.out.at k hlt
          obtain ⟨h0, h1, h2, h3⟩ := hx.below hb0 HBF.out
          have hi1 : (0 : Int) ≤ (k : Int) := by omega
          have hi2 : (k : Int) < (l.length : Int) := by omega
          have HBK : Hid (V.boundsB n l[k] = true) := Lib.hid (HOKS.out.bnd _ (List.getElem_mem hlt))
          have HYES := Lib.hid (fun hb => any_step (p := hasF n s) HZ.out hlt hb)
          have HNO := Lib.hid (fun hb => any_yes (p := hasF n s) hlt hb)
          clear hx
          generalize l[k] = x at *
          have HXF : Hid (hasF n s x = ((decide (x.lk = 0) || decide (V.cutC n x.low (s, false) ≤ 0)) && (decide (x.hk = 0) || decide (0 ≤ V.cutC n x.high (s, true))))) := Lib.hid rfl
          have hbA : Below wr.heap.size wr (wr.alloc (.cells #[.string ⟨x.lo.toArray⟩, .int .i64 x.lk, .string ⟨x.hi.toArray⟩, .int .i64 x.hk] 64)) := (Below.refl _ wr).alloc (Nat.le_refl _) _
          have HM1 := Lib.hid ((HM3.out.below HBX.out).below hbA)
          have HBA := Lib.hid (HBX.out.trans (hbA.mono HBX.out.size))
          have m0 := below_keep HBA.out HPQ.out.1
          have m1 := below_keep HBA.out HPQ.out.2.1
          have m2 := below_keep HBA.out HPQ.out.2.2.1
          have m3 := below_keep HBA.out HPQ.out.2.2.2.1
          have m4 := below_keep HBA.out HPQ.out.2.2.2.2
          have hx4 : ItvAt (wr.alloc (.cells #[.string ⟨x.lo.toArray⟩, .int .i64 x.lk, .string ⟨x.hi.toArray⟩, .int .i64 x.hk] 64)) wr.heap.size 0 x := by
            refine ⟨?_, ?_, ?_, ?_⟩ <;> simp [cell_alloc]
          have HX4 := Lib.hid hx4
          clear hbA hx4
          go_wp2_with fail
          generalize wr.alloc (.cells #[.string ⟨x.lo.toArray⟩, .int .i64 x.lk, .string ⟨x.hi.toArray⟩, .int .i64 x.hk] 64) = W1 at *
          obtain ⟨d0, d1, d2, d3⟩ := HX4.out
          rw [Nat.zero_add] at d1 d2 d3
          clear h0 h1 h2 h3
          obtain ⟨P, hP⟩ : ∃ P, P = (decide (x.lk = 0) || decide (V.cutC n x.low (s, false) ≤ 0)) := ⟨_, rfl⟩
          obtain ⟨Q, hQ⟩ : ∃ Q, Q = (decide (x.hk = 0) || decide (0 ≤ V.cutC n x.high (s, true))) := ⟨_, rfl⟩
          have HP := Lib.hid hP
          have HQ := Lib.hid hQ
          have HXF2 : Hid (hasF n s x = (P && Q)) := Lib.hid (by rw [HXF.out, hP, hQ])
          clear hP hQ
          rcases hlk : (x.lk == 0) with _ | _
          · have i1 : x.lk ≠ 0 := by simpa using hlk
            have hlow := V.low_valid HBK.out i1
            have HPT0 : Hid (P = decide (V.cutC n x.low (s, false) ≤ 0)) := Lib.hid (by rw [HP.out, decide_eq_false i1]; rfl)
            clear i1
            go_region_held3 (fun W' => MaxOk W' ∧ W'.cell? ⟨wr.heap.size, 0, none⟩ = some (.string ⟨x.lo.toArray⟩) ∧ W'.cell? ⟨wr.heap.size, 1, none⟩ = some (.int .i64 x.lk) ∧ W'.cell? ⟨wr.heap.size, 2, none⟩ = some (.string ⟨x.hi.toArray⟩) ∧ W'.cell? ⟨wr.heap.size, 3, none⟩ = some (.int .i64 x.hk) ∧
              W'.cell? ⟨w.heap.size, 0, none⟩ = some (.int .i64 n) ∧ W'.cell? ⟨w2.heap.size, 0, none⟩ = some (.string ⟨s.toArray⟩) ∧ W'.cell? ⟨w2.heap.size, 1, none⟩ = some (.bool false))
              (first
                | (go_split_ands; exact ⟨MaxOk.below (by assumption) hbq, below_keep hbq (by assumption), below_keep hbq (by assumption), below_keep hbq (by assumption), below_keep hbq (by assumption), below_keep hbq (by assumption), below_keep hbq (by assumption), below_keep hbq (by assumption)⟩)
                | (exact ⟨HM1.out, d0, d1, d2, d3, m0, m1, m2⟩)
                | go_keep)
              (first
                | (go_at_call 47; refine (rgLow_any x _).mono ?_; rintro e wq ⟨rfl, hbq⟩)
                | (go_at_call 46; refine (rgCompare_any n x.low (s, false) _ (by first | assumption | exact And.left (by assumption)) HOKS.out.sch hlow HVA.out).mono ?_; rintro e wq ⟨rfl, hbq⟩))
            rename_i wa hba hS
            have HB5 := Lib.hid (below3 hba hbq)
            rw [← HPT0.out]
            clear hba hbq hS HPT0
            generalize wq = W2 at *
            have k0 := below_keep HB5.out d0
            have k1 := below_keep HB5.out d1
            have k2 := below_keep HB5.out d2
            have k3 := below_keep HB5.out d3
            have n0 := below_keep HB5.out m0
            have n3 := below_keep HB5.out m3
            have n4 := below_keep HB5.out m4
            have HM5 := Lib.hid (HM1.out.below HB5.out)
            have HB6 := Lib.hid (HBA.out.trans (HB5.out.mono HBA.out.size))
            clear d0 d1 d2 d3 m0 m1 m2 m3 m4 HB5 HM1
            go_wp2_with fail
            rcases hhk : (x.hk == 0) with _ | _
            · have i1 : x.hk ≠ 0 := by simpa using hhk
              have hhigh := V.high_valid HBK.out i1
              have HQT0 : Hid (Q = decide (0 ≤ V.cutC n x.high (s, true))) := Lib.hid (by rw [HQ.out, decide_eq_false i1]; rfl)
              clear i1
              go_region_held3 (fun W' => MaxOk W' ∧ W'.cell? ⟨wr.heap.size, 0, none⟩ = some (.string ⟨x.lo.toArray⟩) ∧ W'.cell? ⟨wr.heap.size, 1, none⟩ = some (.int .i64 x.lk) ∧ W'.cell? ⟨wr.heap.size, 2, none⟩ = some (.string ⟨x.hi.toArray⟩) ∧ W'.cell? ⟨wr.heap.size, 3, none⟩ = some (.int .i64 x.hk) ∧
                W'.cell? ⟨w.heap.size, 0, none⟩ = some (.int .i64 n) ∧ W'.cell? ⟨w2.heap.size + 1, 0, none⟩ = some (.string ⟨s.toArray⟩) ∧ W'.cell? ⟨w2.heap.size + 1, 1, none⟩ = some (.bool true))
                (first
                  | (go_split_ands; exact ⟨MaxOk.below (by assumption) hbq, below_keep hbq (by assumption), below_keep hbq (by assumption), below_keep hbq (by assumption), below_keep hbq (by assumption), below_keep hbq (by assumption), below_keep hbq (by assumption), below_keep hbq (by assumption)⟩)
                  | (exact ⟨HM5.out, k0, k1, k2, k3, n0, n3, n4⟩)
                  | go_keep)
                (first
                  | (go_at_call 48; refine (rgHigh_any x _).mono ?_; rintro e wq ⟨rfl, hbq⟩)
                  | (go_at_call 46; refine (rgCompare_any n x.high (s, true) _ (by first | assumption | exact And.left (by assumption)) HOKS.out.sch hhigh HVA.out).mono ?_; rintro e wq ⟨rfl, hbq⟩))
              rename_i wa hba hS
              have hb7 := below3 hba hbq
              have HB7 := Lib.hid (HB6.out.trans (hb7.mono HB6.out.size))
              rw [← HQT0.out]
              clear hb7 hba hbq hS k0 k1 k2 k3 n0 n3 n4 HQT0
              generalize wq = W3 at *
              rcases hpv : P with _ | _
              · have HPT := Lib.hid hpv
                clear hpv
                rcases hqv : Q with _ | _
                · have HQT := Lib.hid hqv
                  clear hqv
                  have HY := Lib.hid (HYES.out (by rw [HXF2.out, HPT.out, HQT.out]; rfl))
                  go_wp2
                  go_roundw
                  case rel => exact ⟨k + 1, by omega, by go_num, HY.out, HB7.out⟩
                  case measure => simp [intOf]; omega
                · have HQT := Lib.hid hqv
                  clear hqv
                  have HY := Lib.hid (HYES.out (by rw [HXF2.out, HPT.out, HQT.out]; rfl))
                  go_wp2
                  go_roundw
                  case rel => exact ⟨k + 1, by omega, by go_num, HY.out, HB7.out⟩
                  case measure => simp [intOf]; omega
              · have HPT := Lib.hid hpv
                clear hpv
                rcases hqv : Q with _ | _
                · have HQT := Lib.hid hqv
                  clear hqv
                  have HY := Lib.hid (HYES.out (by rw [HXF2.out, HPT.out, HQT.out]; rfl))
                  go_wp2
                  go_roundw
                  case rel => exact ⟨k + 1, by omega, by go_num, HY.out, HB7.out⟩
                  case measure => simp [intOf]; omega
                · have HQT := Lib.hid hqv
                  clear hqv
                  have HR : Hid (V.containsL n l s = true) := Lib.hid (by rw [HF2.out]; exact HNO.out (by rw [HXF2.out, HPT.out, HQT.out]; rfl))
                  go_wp2
                  go_ret
                  exact ⟨ret_bool HR.out.symm, HB3.out.trans (HB7.out.mono HB3.out.size)⟩
            · have HQT : Hid (Q = true) := Lib.hid (by rw [HQ.out, decide_eq_true (eq_of_beq hhk)]; rfl)
              go_quiet (fail)
              have HB7 := Lib.hid (below_drewN HB6.out nq)
              generalize W2.drewN nq = W3 at *
              clear k0 k1 k2 k3 n0 n3 n4
              rcases hpv : P with _ | _
              · have HPT := Lib.hid hpv
                clear hpv
                have HY := Lib.hid (HYES.out (by rw [HXF2.out, HPT.out, HQT.out]; rfl))
                go_wp2
                go_roundw
                case rel => exact ⟨k + 1, by omega, by go_num, HY.out, HB7.out⟩
                case measure => simp [intOf]; omega
              · have HPT := Lib.hid hpv
                clear hpv
                have HR : Hid (V.containsL n l s = true) := Lib.hid (by rw [HF2.out]; exact HNO.out (by rw [HXF2.out, HPT.out, HQT.out]; rfl))
                go_wp2
                go_ret
                exact ⟨ret_bool HR.out.symm, HB3.out.trans (HB7.out.mono HB3.out.size)⟩
          · have HPT : Hid (P = true) := Lib.hid (by rw [HP.out, decide_eq_true (eq_of_beq hlk)]; rfl)
            go_quiet (fail)
            have HB5 := Lib.hid (below_drewN (Below.refl W1.heap.size W1) nq)
            generalize W1.drewN nq = W2 at *
            have k0 := below_keep HB5.out d0
            have k1 := below_keep HB5.out d1
            have k2 := below_keep HB5.out d2
            have k3 := below_keep HB5.out d3
            have n0 := below_keep HB5.out m0
            have n3 := below_keep HB5.out m3
            have n4 := below_keep HB5.out m4
            have HM5 := Lib.hid (HM1.out.below HB5.out)
            have HB6 := Lib.hid (HBA.out.trans (HB5.out.mono HBA.out.size))
            clear d0 d1 d2 d3 m0 m1 m2 m3 m4 HB5 HM1
            go_wp2_with fail
            rcases hhk : (x.hk == 0) with _ | _
            · have i1 : x.hk ≠ 0 := by simpa using hhk
              have hhigh := V.high_valid HBK.out i1
              have HQT0 : Hid (Q = decide (0 ≤ V.cutC n x.high (s, true))) := Lib.hid (by rw [HQ.out, decide_eq_false i1]; rfl)
              clear i1
              go_region_held3 (fun W' => MaxOk W' ∧ W'.cell? ⟨wr.heap.size, 0, none⟩ = some (.string ⟨x.lo.toArray⟩) ∧ W'.cell? ⟨wr.heap.size, 1, none⟩ = some (.int .i64 x.lk) ∧ W'.cell? ⟨wr.heap.size, 2, none⟩ = some (.string ⟨x.hi.toArray⟩) ∧ W'.cell? ⟨wr.heap.size, 3, none⟩ = some (.int .i64 x.hk) ∧
                W'.cell? ⟨w.heap.size, 0, none⟩ = some (.int .i64 n) ∧ W'.cell? ⟨w2.heap.size + 1, 0, none⟩ = some (.string ⟨s.toArray⟩) ∧ W'.cell? ⟨w2.heap.size + 1, 1, none⟩ = some (.bool true))
                (first
                  | (go_split_ands; exact ⟨MaxOk.below (by assumption) hbq, below_keep hbq (by assumption), below_keep hbq (by assumption), below_keep hbq (by assumption), below_keep hbq (by assumption), below_keep hbq (by assumption), below_keep hbq (by assumption), below_keep hbq (by assumption)⟩)
                  | (exact ⟨HM5.out, k0, k1, k2, k3, n0, n3, n4⟩)
                  | go_keep)
                (first
                  | (go_at_call 48; refine (rgHigh_any x _).mono ?_; rintro e wq ⟨rfl, hbq⟩)
                  | (go_at_call 46; refine (rgCompare_any n x.high (s, true) _ (by first | assumption | exact And.left (by assumption)) HOKS.out.sch hhigh HVA.out).mono ?_; rintro e wq ⟨rfl, hbq⟩))
              rename_i wa hba hS
              have hb7 := below3 hba hbq
              have HB7 := Lib.hid (HB6.out.trans (hb7.mono HB6.out.size))
              rw [← HQT0.out]
              clear hb7 hba hbq hS k0 k1 k2 k3 n0 n3 n4 HQT0
              generalize wq = W3 at *
              rcases hqv : Q with _ | _
              · have HQT := Lib.hid hqv
                clear hqv
                have HY := Lib.hid (HYES.out (by rw [HXF2.out, HPT.out, HQT.out]; rfl))
                go_wp2
                go_roundw
                case rel => exact ⟨k + 1, by omega, by go_num, HY.out, HB7.out⟩
                case measure => simp [intOf]; omega
              · have HQT := Lib.hid hqv
                clear hqv
                have HR : Hid (V.containsL n l s = true) := Lib.hid (by rw [HF2.out]; exact HNO.out (by rw [HXF2.out, HPT.out, HQT.out]; rfl))
                go_wp2
                go_ret
                exact ⟨ret_bool HR.out.symm, HB3.out.trans (HB7.out.mono HB3.out.size)⟩
            · have HQT : Hid (Q = true) := Lib.hid (by rw [HQ.out, decide_eq_true (eq_of_beq hhk)]; rfl)
              go_quiet (fail)
              have HB7 := Lib.hid (below_drewN HB6.out nq)
              generalize W2.drewN nq = W3 at *
              clear k0 k1 k2 k3 n0 n3 n4
              have HR : Hid (V.containsL n l s = true) := Lib.hid (by rw [HF2.out]; exact HNO.out (by rw [HXF2.out, HPT.out, HQT.out]; rfl))
              go_wp2
              go_ret
              exact ⟨ret_bool HR.out.symm, HB3.out.trans (HB7.out.mono HB3.out.size)⟩
        · obtain rfl : k = l.length := by omega
          have HR : Hid (V.containsL n l s = false) := Lib.hid (by have := HZ.out; rw [List.take_length] at this; rw [HF2.out, this])
          go_wp2
          go_ret
          exact ⟨ret_bool HR.out.symm, HBF.out⟩
end Go.Proofs.YtolojkkhmamddaaGreatDoor
namespace Go.Proofs.YtolojkkhmamddaaGreatDoor
open Go.RowKit

namespace V
/-- whether a set that begins with x is open behind i turns -/
def par (x : Bool) (i : Nat) : Bool := if i % 2 = 0 then x else !x
theorem par_zero (x : Bool) : par x 0 = x := rfl
theorem par_succ (x : Bool) (i : Nat) : par x (i + 1) = !par x i := by
  unfold par
  rcases Nat.mod_two_eq_zero_or_one i with h | h
  · rw [if_pos h, if_neg (show ¬ (i + 1) % 2 = 0 by omega)]
  · rw [if_neg (show ¬ i % 2 = 0 by omega), if_pos (show (i + 1) % 2 = 0 by omega), Bool.not_not]
theorem par_not (x : Bool) (i : Nat) : par (!x) i = !par x i := by
  unfold par
  split
  · rfl
  · rfl
/-- the cuts with their directions -/
def alt : Bool → List Cut → List (Cut × Bool)
  | _, [] => []
  | x, c :: l => (c, !x) :: alt (!x) l
theorem alt_len : ∀ (x : Bool) (l : List Cut), (alt x l).length = l.length
  | _, [] => rfl
  | x, c :: l => by rw [alt, List.length_cons, List.length_cons, alt_len]
theorem alt_at : ∀ (x : Bool) (l : List Cut) (j : Nat) (h : j < l.length), (alt x l)[j]? = some (l[j], par x (j + 1))
  | _, [], _, h => by simp at h
  | x, c :: l, 0, _ => by
    rw [par_succ, par_zero]
    rfl
  | x, c :: l, j + 1, h => by
    rw [par_succ, ← par_not]
    exact alt_at (!x) l j (by simpa using h)
theorem alt_snoc : ∀ (x : Bool) (l : List Cut) (c : Cut), alt x (l ++ [c]) = alt x l ++ [(c, !par x l.length)]
  | x, [], c => rfl
  | x, d :: l, c => by
    show (d, !x) :: alt (!x) (l ++ [c]) = (d, !x) :: (alt (!x) l ++ _)
    rw [alt_snoc, List.length_cons, par_succ, par_not]
/-- the borders of an interval -/
def bordI (x : Itv) : List (Cut × Bool) := (if x.lk = 0 then [] else [(x.low, true)]) ++ (if x.hk = 0 then [] else [(x.high, false)])
theorem bord_alt : ∀ {n : Int} {l : List Itv}, Ord n l → l.flatMap bordI = alt (firstB l) (cutsOf l)
  | _, [], _ => rfl
  | n, x :: l, h => by
    have hl : firstB l = false := by
      refine ord_later h.2.2 (fun z hz => ?_)
      have := h.2.1 z hz
      unfold nextB at this
      simp at this
      exact this.2.1
    have ih := bord_alt h.2.2
    rw [hl] at ih
    have hf : firstB (x :: l) = decide (x.lk = 0) := by
      unfold firstB at hl ⊢
      rw [List.any_cons, hl, Bool.or_false]
    have tail : (if x.hk = 0 then [] else [(x.high, false)]) ++ l.flatMap bordI = alt true ((if x.hk = 0 then [] else [x.high]) ++ cutsOf l) := by
      by_cases hk : x.hk = 0
      · have : l = [] := by
          rcases l with _ | ⟨z, l⟩
          · rfl
          · have := h.2.1 z (by simp)
            unfold nextB at this
            simp [hk] at this
        subst this
        rw [if_pos hk, if_pos hk]
        rfl
      · rw [if_neg hk, if_neg hk, ih]
        rfl
    rw [List.flatMap_cons, hf, cutsOf]
    unfold bordI
    rw [List.append_assoc, show (l.flatMap fun x => (if x.lk = 0 then [] else [(x.low, true)]) ++ (if x.hk = 0 then [] else [(x.high, false)])) = l.flatMap bordI from rfl, tail]
    by_cases hk : x.lk = 0
    · rw [if_pos hk, if_pos hk, decide_eq_true hk]
      rfl
    · rw [if_neg hk, if_neg hk, decide_eq_false hk]
      rfl
end V

/-! borders as rows -/
def bordE (b : V.Cut × Bool) : List Value := [.string ⟨b.1.1.toArray⟩, .bool b.1.2, .bool b.2]
theorem bordE_len (b : V.Cut × Bool) : (bordE b).length = 3 := rfl
theorem bordE_one (b : V.Cut × Bool) : ∀ u ∈ bordE b, u.oneCell' = true := by
  intro u hu
  simp [bordE] at hu
  rcases hu with rfl | rfl | rfl <;> rfl
theorem bordInfo : GInfo 89 3 32 := by
  have h : (match Tryz.prog.info? 89 with | some i => i.size == 3 && (i.bytes == 32 && (match i.zero with | some z => z.cells.size == 3 | none => false)) | none => false) = true := by kernel_rfl
  unfold GInfo
  cases hq : Tryz.prog.info? 89 with
  | none => rw [hq] at h; cases h
  | some i =>
    rw [hq] at h
    simp only [Bool.and_eq_true, beq_iff_eq] at h
    obtain ⟨h1, h2, h3⟩ := h
    cases hz : i.zero with
    | none => rw [hz] at h3; cases h3
    | some z =>
      rw [hz] at h3
      exact ⟨i, z, rfl, hz, h1, h2, by simpa using h3⟩
/-- a row of borders of one's own -/
def BRow (w : World) (N : Nat) (v : Value) (l : List (V.Cut × Bool)) : Prop := GRow 89 3 bordE w N v l
theorem bordTo_step {l : List V.Itv} {k : Nat} (h : k < l.length) : (l.take (k + 1)).flatMap V.bordI = (l.take k).flatMap V.bordI ++ V.bordI l[k] := by
  rw [List.take_succ_eq_append_getElem h, List.flatMap_append]
  simp
theorem bordTo_len (l : List V.Itv) (k : Nat) : ((l.take k).flatMap V.bordI).length ≤ 2 * l.length := by
  have : ∀ m : List V.Itv, (m.flatMap V.bordI).length ≤ 2 * m.length := fun m => by
    induction m with
    | nil => simp
    | cons x m ih =>
      rw [List.flatMap_cons, List.length_append, List.length_cons]
      unfold V.bordI at ih ⊢
      rw [List.length_append]
      split <;> split <;> simp at * <;> omega
  have h := this (l.take k)
  rw [List.length_take] at h
  omega
theorem firstTo_step {l : List V.Itv} {k : Nat} (h : k < l.length) : V.firstB (l.take (k + 1)) = (V.firstB (l.take k) || decide (l[k].lk = 0)) := by
  unfold V.firstB
  rw [List.take_succ_eq_append_getElem h, List.any_append]
  simp

set_option maxRecDepth 100000 in
set_option maxHeartbeats 3200000 in
theorem rgBorders_any (n : Int) (v : Value) (l : List V.Itv) (w : World) (hv : Itvs w v l) (hl : l.length ≤ 1000) :
    Calls Tryz.prog 73 #[setV n v] w fun e w' => ∃ u, e = .returned (.tuple #[u, .bool (V.firstB l)]) ∧ BRow w' w.heap.size u (l.flatMap V.bordI) ∧ Below w.heap.size w w' := by
  have HV := Lib.hid hv
  obtain ⟨va, vc, rfl⟩ := hv.slice
  have hb0 : Below w.heap.size w (w.alloc (.cells #[.int .i64 n, .slice va l.length vc] 25)) := (Below.refl _ w).alloc (Nat.le_refl _) _
  have HB0 := Lib.hid hb0
  have c1 : (w.alloc (.cells #[.int .i64 n, .slice va l.length vc] 25)).cell? ⟨w.heap.size, 1, none⟩ = some (.slice va l.length vc) := by simp [cell_alloc]
  have hz0 : w.heap.size < (w.alloc (.cells #[.int .i64 n, .slice va l.length vc] 25)).heap.size := by simp
  clear hv hb0
  unfold setV
  go_enter Tryz.func73, Tryz.ntmps73
  go_wp2
  generalize w.alloc (.cells #[.int .i64 n, .slice va l.length vc] 25) = w0 at *
  go_loopw [4, 5, 11] (fun ov fv iv wx => ∃ k : Nat, k ≤ l.length ∧ iv = .int .i64 k ∧ fv = .bool (V.firstB (l.take k)) ∧ BRow wx w.heap.size ov ((l.take k).flatMap V.bordI) ∧ Below w.heap.size w wx ∧ w.heap.size ≤ wx.heap.size) (fun _ _ iv _ => l.length - (intOf iv).toNat)
  case atStart => exact ⟨0, Nat.zero_le _, rfl, rfl, GRow.nil _ _, HB0.out, by omega⟩
  case round =>
    obtain ⟨k, hk, rfl, rfl, hrow, hbx, hsz⟩ := hrel
    have HROW := Lib.hid hrow
    have HBX := Lib.hid hbx
    obtain ⟨oa, oc, rfl⟩ := hrow.slice
    have HLT := Lib.hid (GRow.lt hrow)
    have HBK := Lib.hid (GRow.block hrow)
    clear hrow hbx
    by_cases hlt : k < l.length
    · obtain ⟨b, off, rfl, hb0, hx⟩ := HV.out.at k hlt
      obtain ⟨h0, h1, h2, h3⟩ := hx.below hb0 HBX.out
      have hi1 : (0 : Int) ≤ (k : Int) := by omega
      have hi2 : (k : Int) < (l.length : Int) := by omega
      have HST := Lib.hid (bordTo_step hlt)
      have HFT := Lib.hid (firstTo_step hlt)
      have hlen := bordTo_len l k
      clear hx
      generalize l[k] = x at *
      obtain ⟨F, hF⟩ : ∃ F, F = V.firstB (l.take k) := ⟨_, rfl⟩
      obtain ⟨B, hB⟩ : ∃ B, B = (l.take k).flatMap V.bordI := ⟨_, rfl⟩
      rw [← hF] at HFT ⊢
      rw [← hB] at HST HROW hlen HLT HBK ⊢
      clear hF hB
      have HBI : Hid (V.bordI x = (if x.lk = 0 then [] else [(x.low, true)]) ++ (if x.hk = 0 then [] else [(x.high, false)])) := Lib.hid rfl
      have hbA : Below wr.heap.size wr (wr.alloc (.cells #[.string ⟨x.lo.toArray⟩, .int .i64 x.lk, .string ⟨x.hi.toArray⟩, .int .i64 x.hk] 64)) := (Below.refl _ wr).alloc (Nat.le_refl _) _
      have HBA := Lib.hid (HBX.out.trans (hbA.mono HBX.out.size))
      have HRA := Lib.hid (GRow.below HROW.out hbA)
      have hx4 : ItvAt (wr.alloc (.cells #[.string ⟨x.lo.toArray⟩, .int .i64 x.lk, .string ⟨x.hi.toArray⟩, .int .i64 x.hk] 64)) wr.heap.size 0 x := by
        refine ⟨?_, ?_, ?_, ?_⟩ <;> simp [cell_alloc]
      have HX4 := Lib.hid hx4
      have hszA : wr.heap.size < (wr.alloc (.cells #[.string ⟨x.lo.toArray⟩, .int .i64 x.lk, .string ⟨x.hi.toArray⟩, .int .i64 x.hk] 64)).heap.size := by simp
      clear hbA hx4 HROW
      have hfst : wr.heap.size < (wr.alloc (.cells #[.string ⟨x.lo.toArray⟩, .int .i64 x.lk, .string ⟨x.hi.toArray⟩, .int .i64 x.hk] 64)).heap.size := hszA
      have hNA : w.heap.size ≤ (wr.alloc (.cells #[.string ⟨x.lo.toArray⟩, .int .i64 x.lk, .string ⟨x.hi.toArray⟩, .int .i64 x.hk] 64)).heap.size := by omega
      obtain ⟨d0, d1, d2, d3⟩ := HX4.out
      rw [Nat.zero_add] at d1 d2 d3
      clear HX4 hszA
      rcases hlk : (x.lk == 0) with _ | _
      · rcases hhk : (x.hk != 0) with _ | _
        · have HST1 : Hid ((l.take (k + 1)).flatMap V.bordI = (B ++ [(x.low, true)]) ++ (if x.hk = 0 then [] else [(x.high, false)])) := Lib.hid (by rw [HST.out, HBI.out, if_neg (show ¬ x.lk = 0 by simpa using hlk), List.append_assoc])
          have HFV : Hid (Value.bool F = Value.bool (V.firstB (l.take (k + 1)))) := Lib.hid (by rw [HFT.out, decide_eq_false (show ¬ x.lk = 0 by simpa using hlk), Bool.or_false])
          go_wp2_with fail
          generalize wr.alloc (.cells #[.string ⟨x.lo.toArray⟩, .int .i64 x.lk, .string ⟨x.hi.toArray⟩, .int .i64 x.hk] 64) = W1 at *
          refine (rgLow_any x W1).mono ?_
          rintro e W2 ⟨rfl, hb2⟩
          have k0 := below_keep hb2 d0
          have k1 := below_keep hb2 d1
          have k2 := below_keep hb2 d2
          have k3 := below_keep hb2 d3
          have hbC : Below W2.heap.size W2 (W2.alloc (.cells #[.string ⟨x.low.1.toArray⟩, .bool x.low.2, .bool true] 89)) := (Below.refl _ W2).alloc (Nat.le_refl _) _
          have HR2 := Lib.hid (GRow.below (GRow.below HRA.out hb2) hbC)
          have HB2 := Lib.hid (HBA.out.trans (hb2.mono HBA.out.size))
          have HB3 := Lib.hid (HB2.out.trans (hbC.mono HB2.out.size))
          have hN2 : w.heap.size ≤ W2.heap.size := Nat.le_trans hNA hb2.size
          have e0 := below_keep hbC k0
          have e1 := below_keep hbC k1
          have e2 := below_keep hbC k2
          have e3 := below_keep hbC k3
          have HNW : Hid (∀ j u, (bordE (x.low, true))[j]? = some u → (W2.alloc (.cells #[.string ⟨x.low.1.toArray⟩, .bool x.low.2, .bool true] 89)).cell? ⟨W2.heap.size, j, none⟩ = some u) := Lib.hid (fun j u hu => by rw [World.cell?_alloc_new]; simpa [bordE] using hu)
          clear hb2 hbC d0 d1 d2 d3 k0 k1 k2 k3 HRA HBA
          unfold cutV
          go_wp2_with (first | (refine wl_appendG bordE_len (by decide) bordE_one bordInfo (by decide) rfl _ _ 85 rfl Tryz.underlying85 w.heap.size (.slice oa B.length oc) B rfl HR2.out W2.heap.size (x.low, true) rfl HNW.out (by omega) (by simp; omega) ?_; intro v3 W3 hr3 hg3; have m0 := grown_keep hg3 HLT.out e0; have m1 := grown_keep hg3 HLT.out e1; have m2 := grown_keep hg3 HLT.out e2; have m3 := grown_keep hg3 HLT.out e3) | fail)
          have HB5 : Hid (Below w.heap.size w W3) := Lib.hid (HB3.out.trans (grown_below2 hg3 HBK.out (Nat.le_refl _) (by simp; omega)))
          have HR5 : Hid (BRow W3 w.heap.size v3 (B ++ [(x.low, true)])) := Lib.hid hr3
          have hN5 : w.heap.size ≤ W3.heap.size := HB5.out.size
          have HBK5 : Hid (∀ b, v3.ownBlock = some b → w.heap.size ≤ b) := Lib.hid (GRow.block hr3)
          have hlen5 : (B ++ [(x.low, true)]).length ≤ 2 * l.length + 1 := by simp; omega
          generalize B ++ [(x.low, true)] = B5 at *
          clear hr3 hg3 e0 e1 e2 e3 HNW
          have HR7 : Hid (BRow W3 w.heap.size v3 ((l.take (k + 1)).flatMap V.bordI)) := Lib.hid (by rw [HST1.out, if_pos (show x.hk = 0 by simpa using hhk), List.append_nil]; exact HR5.out)
          go_wp2
          go_roundw
          case rel => exact ⟨k + 1, by omega, by go_num, HFV.out, HR7.out, HB5.out, hN5⟩
          case measure => simp [intOf]; omega
        · have HST1 : Hid ((l.take (k + 1)).flatMap V.bordI = (B ++ [(x.low, true)]) ++ (if x.hk = 0 then [] else [(x.high, false)])) := Lib.hid (by rw [HST.out, HBI.out, if_neg (show ¬ x.lk = 0 by simpa using hlk), List.append_assoc])
          have HFV : Hid (Value.bool F = Value.bool (V.firstB (l.take (k + 1)))) := Lib.hid (by rw [HFT.out, decide_eq_false (show ¬ x.lk = 0 by simpa using hlk), Bool.or_false])
          go_wp2_with fail
          generalize wr.alloc (.cells #[.string ⟨x.lo.toArray⟩, .int .i64 x.lk, .string ⟨x.hi.toArray⟩, .int .i64 x.hk] 64) = W1 at *
          refine (rgLow_any x W1).mono ?_
          rintro e W2 ⟨rfl, hb2⟩
          have k0 := below_keep hb2 d0
          have k1 := below_keep hb2 d1
          have k2 := below_keep hb2 d2
          have k3 := below_keep hb2 d3
          have hbC : Below W2.heap.size W2 (W2.alloc (.cells #[.string ⟨x.low.1.toArray⟩, .bool x.low.2, .bool true] 89)) := (Below.refl _ W2).alloc (Nat.le_refl _) _
          have HR2 := Lib.hid (GRow.below (GRow.below HRA.out hb2) hbC)
          have HB2 := Lib.hid (HBA.out.trans (hb2.mono HBA.out.size))
          have HB3 := Lib.hid (HB2.out.trans (hbC.mono HB2.out.size))
          have hN2 : w.heap.size ≤ W2.heap.size := Nat.le_trans hNA hb2.size
          have e0 := below_keep hbC k0
          have e1 := below_keep hbC k1
          have e2 := below_keep hbC k2
          have e3 := below_keep hbC k3
          have HNW : Hid (∀ j u, (bordE (x.low, true))[j]? = some u → (W2.alloc (.cells #[.string ⟨x.low.1.toArray⟩, .bool x.low.2, .bool true] 89)).cell? ⟨W2.heap.size, j, none⟩ = some u) := Lib.hid (fun j u hu => by rw [World.cell?_alloc_new]; simpa [bordE] using hu)
          clear hb2 hbC d0 d1 d2 d3 k0 k1 k2 k3 HRA HBA
          unfold cutV
          go_wp2_with (first | (refine wl_appendG bordE_len (by decide) bordE_one bordInfo (by decide) rfl _ _ 85 rfl Tryz.underlying85 w.heap.size (.slice oa B.length oc) B rfl HR2.out W2.heap.size (x.low, true) rfl HNW.out (by omega) (by simp; omega) ?_; intro v3 W3 hr3 hg3; have m0 := grown_keep hg3 HLT.out e0; have m1 := grown_keep hg3 HLT.out e1; have m2 := grown_keep hg3 HLT.out e2; have m3 := grown_keep hg3 HLT.out e3) | fail)
          have HB5 : Hid (Below w.heap.size w W3) := Lib.hid (HB3.out.trans (grown_below2 hg3 HBK.out (Nat.le_refl _) (by simp; omega)))
          have HR5 : Hid (BRow W3 w.heap.size v3 (B ++ [(x.low, true)])) := Lib.hid hr3
          have hN5 : w.heap.size ≤ W3.heap.size := HB5.out.size
          have HBK5 : Hid (∀ b, v3.ownBlock = some b → w.heap.size ≤ b) := Lib.hid (GRow.block hr3)
          have hlen5 : (B ++ [(x.low, true)]).length ≤ 2 * l.length + 1 := by simp; omega
          generalize B ++ [(x.low, true)] = B5 at *
          clear hr3 hg3 e0 e1 e2 e3 HNW
          refine (rgHigh_any x W3).mono ?_
          rintro e W4 ⟨rfl, hb4⟩
          have hbC : Below W4.heap.size W4 (W4.alloc (.cells #[.string ⟨x.high.1.toArray⟩, .bool x.high.2, .bool false] 89)) := (Below.refl _ W4).alloc (Nat.le_refl _) _
          have HR6 := Lib.hid (GRow.below (GRow.below HR5.out hb4) hbC)
          have HB4 := Lib.hid (HB5.out.trans (hb4.mono HB5.out.size))
          have HB6 := Lib.hid (HB4.out.trans (hbC.mono HB4.out.size))
          have hN4 : w.heap.size ≤ W4.heap.size := HB4.out.size
          have HNW : Hid (∀ j u, (bordE (x.high, false))[j]? = some u → (W4.alloc (.cells #[.string ⟨x.high.1.toArray⟩, .bool x.high.2, .bool false] 89)).cell? ⟨W4.heap.size, j, none⟩ = some u) := Lib.hid (fun j u hu => by rw [World.cell?_alloc_new]; simpa [bordE] using hu)
          clear hb4 hbC
          unfold cutV
          go_wp2_with (first | (refine wl_appendG bordE_len (by decide) bordE_one bordInfo (by decide) rfl _ _ 85 rfl Tryz.underlying85 w.heap.size v3 B5 rfl HR6.out W4.heap.size (x.high, false) rfl HNW.out (by omega) (by simp; omega) ?_; intro v6 W6 hr6 hg6) | fail)
          have HB7 : Hid (Below w.heap.size w W6) := Lib.hid (HB6.out.trans (grown_below2 hg6 HBK5.out (Nat.le_refl _) (by simp; omega)))
          have HR7 : Hid (BRow W6 w.heap.size v6 ((l.take (k + 1)).flatMap V.bordI)) := Lib.hid (by rw [HST1.out, if_neg (show ¬ x.hk = 0 by simpa using hhk)]; exact hr6)
          have hN7 : w.heap.size ≤ W6.heap.size := HB7.out.size
          clear hr6 hg6
          go_wp2
          go_roundw
          case rel => exact ⟨k + 1, by omega, by go_num, HFV.out, HR7.out, HB7.out, hN7⟩
          case measure => simp [intOf]; omega
      · rcases hhk : (x.hk != 0) with _ | _
        · have HST1 : Hid ((l.take (k + 1)).flatMap V.bordI = B ++ (if x.hk = 0 then [] else [(x.high, false)])) := Lib.hid (by rw [HST.out, HBI.out, if_pos (eq_of_beq hlk), List.nil_append])
          have HFV : Hid (Value.bool true = Value.bool (V.firstB (l.take (k + 1)))) := Lib.hid (by rw [HFT.out, decide_eq_true (eq_of_beq hlk), Bool.or_true])
          go_wp2_with fail
          generalize wr.alloc (.cells #[.string ⟨x.lo.toArray⟩, .int .i64 x.lk, .string ⟨x.hi.toArray⟩, .int .i64 x.hk] 64) = W3 at *
          have HB5 := HBA
          have HR5 : Hid (BRow W3 w.heap.size (.slice oa B.length oc) B) := HRA
          have hN5 : w.heap.size ≤ W3.heap.size := HB5.out.size
          have HBK5 := HBK
          have hlen5 : B.length ≤ 2 * l.length + 1 := by omega
          have HR7 : Hid (BRow W3 w.heap.size (.slice oa B.length oc) ((l.take (k + 1)).flatMap V.bordI)) := Lib.hid (by rw [HST1.out, if_pos (show x.hk = 0 by simpa using hhk), List.append_nil]; exact HR5.out)
          go_wp2
          go_roundw
          case rel => exact ⟨k + 1, by omega, by go_num, HFV.out, HR7.out, HB5.out, hN5⟩
          case measure => simp [intOf]; omega
        · have HST1 : Hid ((l.take (k + 1)).flatMap V.bordI = B ++ (if x.hk = 0 then [] else [(x.high, false)])) := Lib.hid (by rw [HST.out, HBI.out, if_pos (eq_of_beq hlk), List.nil_append])
          have HFV : Hid (Value.bool true = Value.bool (V.firstB (l.take (k + 1)))) := Lib.hid (by rw [HFT.out, decide_eq_true (eq_of_beq hlk), Bool.or_true])
          go_wp2_with fail
          generalize wr.alloc (.cells #[.string ⟨x.lo.toArray⟩, .int .i64 x.lk, .string ⟨x.hi.toArray⟩, .int .i64 x.hk] 64) = W3 at *
          have HB5 := HBA
          have HR5 : Hid (BRow W3 w.heap.size (.slice oa B.length oc) B) := HRA
          have hN5 : w.heap.size ≤ W3.heap.size := HB5.out.size
          have HBK5 := HBK
          have hlen5 : B.length ≤ 2 * l.length + 1 := by omega
          refine (rgHigh_any x W3).mono ?_
          rintro e W4 ⟨rfl, hb4⟩
          have hbC : Below W4.heap.size W4 (W4.alloc (.cells #[.string ⟨x.high.1.toArray⟩, .bool x.high.2, .bool false] 89)) := (Below.refl _ W4).alloc (Nat.le_refl _) _
          have HR6 := Lib.hid (GRow.below (GRow.below HR5.out hb4) hbC)
          have HB4 := Lib.hid (HB5.out.trans (hb4.mono HB5.out.size))
          have HB6 := Lib.hid (HB4.out.trans (hbC.mono HB4.out.size))
          have hN4 : w.heap.size ≤ W4.heap.size := HB4.out.size
          have HNW : Hid (∀ j u, (bordE (x.high, false))[j]? = some u → (W4.alloc (.cells #[.string ⟨x.high.1.toArray⟩, .bool x.high.2, .bool false] 89)).cell? ⟨W4.heap.size, j, none⟩ = some u) := Lib.hid (fun j u hu => by rw [World.cell?_alloc_new]; simpa [bordE] using hu)
          clear hb4 hbC
          unfold cutV
          go_wp2_with (first | (refine wl_appendG bordE_len (by decide) bordE_one bordInfo (by decide) rfl _ _ 85 rfl Tryz.underlying85 w.heap.size (.slice oa B.length oc) B rfl HR6.out W4.heap.size (x.high, false) rfl HNW.out (by omega) (by simp; omega) ?_; intro v6 W6 hr6 hg6) | fail)
          have HB7 : Hid (Below w.heap.size w W6) := Lib.hid (HB6.out.trans (grown_below2 hg6 HBK5.out (Nat.le_refl _) (by simp; omega)))
          have HR7 : Hid (BRow W6 w.heap.size v6 ((l.take (k + 1)).flatMap V.bordI)) := Lib.hid (by rw [HST1.out, if_neg (show ¬ x.hk = 0 by simpa using hhk)]; exact hr6)
          have hN7 : w.heap.size ≤ W6.heap.size := HB7.out.size
          clear hr6 hg6
          go_wp2
          go_roundw
          case rel => exact ⟨k + 1, by omega, by go_num, HFV.out, HR7.out, HB7.out, hN7⟩
          case measure => simp [intOf]; omega
    · obtain rfl : k = l.length := by omega
      have HT : Hid (l.take l.length = l) := Lib.hid (List.take_length ..)
      rw [HT.out] at HROW ⊢
      go_wp2
      go_ret2
      exact ⟨_, rfl, HROW.out, HBX.out⟩
end Go.Proofs.YtolojkkhmamddaaGreatDoor
namespace Go.Proofs.YtolojkkhmamddaaGreatDoor
open Go.RowKit

/-- v is a slice of borders -/
def Bords (w : World) (v : Value) (B : List (V.Cut × Bool)) : Prop := ∃ a cap, v = .slice a B.length cap ∧ ∀ j (h : j < B.length), ∃ g off, a = some ⟨g, off, none⟩ ∧ g < w.heap.size ∧
  w.cell? ⟨g, off + j * 3, none⟩ = some (.string ⟨B[j].1.1.toArray⟩) ∧ w.cell? ⟨g, off + j * 3 + 1, none⟩ = some (.bool B[j].1.2) ∧ w.cell? ⟨g, off + j * 3 + 2, none⟩ = some (.bool B[j].2)
theorem BRow.bords {w : World} {N : Nat} {v : Value} {B : List (V.Cut × Bool)} (h : BRow w N v B) : Bords w v B := by
  obtain ⟨a, cap, rfl⟩ := GRow.slice h
  refine ⟨a, cap, rfl, fun j hj => ?_⟩
  obtain ⟨g, c, e, _, hlt, hc⟩ := GRow.at bordE_len h j hj
  cases e
  refine ⟨g, 0, rfl, hlt, ?_, ?_, ?_⟩
  · rw [Nat.zero_add]; have := hc 0 _ rfl; rwa [Nat.add_zero] at this
  · rw [Nat.zero_add]; exact hc 1 _ rfl
  · rw [Nat.zero_add]; exact hc 2 _ rfl
theorem Bords.below {w w' : World} {v : Value} {B : List (V.Cut × Bool)} (h : Bords w v B) (hb : Below w.heap.size w w') : Bords w' v B := by
  obtain ⟨a, cap, e, hc⟩ := h
  refine ⟨a, cap, e, fun j hj => ?_⟩
  obtain ⟨g, off, ea, hlt, h0, h1, h2⟩ := hc j hj
  exact ⟨g, off, ea, Nat.lt_of_lt_of_le hlt hb.size, below_keep hb h0, below_keep hb h1, below_keep hb h2⟩
theorem Bords.slice {w : World} {v : Value} {B : List (V.Cut × Bool)} (h : Bords w v B) : ∃ a cap, v = .slice a B.length cap := by
  obtain ⟨a, c, e, _⟩ := h
  exact ⟨a, c, e⟩
theorem Bords.at {w : World} {a : Option Addr} {n cap : Nat} {B : List (V.Cut × Bool)} (h : Bords w (.slice a n cap) B) (j : Nat) (hj : j < B.length) : ∃ g off, a = some ⟨g, off, none⟩ ∧ g < w.heap.size ∧
    w.cell? ⟨g, off + j * 3, none⟩ = some (.string ⟨B[j].1.1.toArray⟩) ∧ w.cell? ⟨g, off + j * 3 + 1, none⟩ = some (.bool B[j].1.2) ∧ w.cell? ⟨g, off + j * 3 + 2, none⟩ = some (.bool B[j].2) := by
  obtain ⟨a', c, e, hc⟩ := h
  obtain ⟨g, off, ea, hr⟩ := hc j hj
  cases e
  exact ⟨g, off, ea, hr⟩

/-! intervals as rows of one's own -/
def itvE (x : V.Itv) : List Value := [.string ⟨x.lo.toArray⟩, .int .i64 x.lk, .string ⟨x.hi.toArray⟩, .int .i64 x.hk]
theorem itvE_len (x : V.Itv) : (itvE x).length = 4 := rfl
theorem itvE_one (x : V.Itv) : ∀ u ∈ itvE x, u.oneCell' = true := by
  intro u hu
  simp [itvE] at hu
  rcases hu with rfl | rfl | rfl | rfl <;> rfl
theorem itvInfo : GInfo 64 4 48 := by
  have h : (match Tryz.prog.info? 64 with | some i => i.size == 4 && (i.bytes == 48 && (match i.zero with | some z => z.cells.size == 4 | none => false)) | none => false) = true := by kernel_rfl
  unfold GInfo
  cases hq : Tryz.prog.info? 64 with
  | none => rw [hq] at h; cases h
  | some i =>
    rw [hq] at h
    simp only [Bool.and_eq_true, beq_iff_eq] at h
    obtain ⟨h1, h2, h3⟩ := h
    cases hz : i.zero with
    | none => rw [hz] at h3; cases h3
    | some z =>
      rw [hz] at h3
      exact ⟨i, z, rfl, hz, h1, h2, by simpa using h3⟩
def ItRow (w : World) (N : Nat) (v : Value) (l : List V.Itv) : Prop := GRow 64 4 itvE w N v l
theorem ItRow.itvs {w : World} {N : Nat} {v : Value} {l : List V.Itv} (h : ItRow w N v l) : Itvs w v l := by
  obtain ⟨a, cap, rfl⟩ := GRow.slice h
  refine ⟨a, cap, rfl, fun j hj => ?_⟩
  obtain ⟨g, c, e, _, hlt, hc⟩ := GRow.at itvE_len h j hj
  cases e
  refine ⟨g, 0, rfl, hlt, ?_, ?_, ?_, ?_⟩
  · rw [Nat.zero_add]; have := hc 0 _ rfl; rwa [Nat.add_zero] at this
  · rw [Nat.zero_add]; exact hc 1 _ rfl
  · rw [Nat.zero_add]; exact hc 2 _ rfl
  · rw [Nat.zero_add]; exact hc 3 _ rfl
def itvC (x : V.Itv) : Array Value := #[.string ⟨x.lo.toArray⟩, .int .i64 x.lk, .string ⟨x.hi.toArray⟩, .int .i64 x.hk]

theorem three_heap (w : World) (a b c : Obj) : (((w.alloc a).alloc b).alloc c).heap[w.heap.size]? = some a ∧ (((w.alloc a).alloc b).alloc c).heap[w.heap.size + 1]? = some b ∧ (((w.alloc a).alloc b).alloc c).heap[w.heap.size + 1 + 1]? = some c ∧ (((w.alloc a).alloc b).alloc c).heap.size = w.heap.size + 1 + 1 + 1 := by
  refine ⟨?_, ?_, ?_, by simp⟩
  · rw [heap_alloc, if_neg (by simp; omega), heap_alloc, if_neg (by simp), heap_alloc, if_pos rfl]
  · rw [heap_alloc, if_neg (by simp), heap_alloc, if_pos (by simp)]
  · rw [heap_alloc, if_pos (by simp)]

theorem itvC_all (x : V.Itv) : (itvC x).all (·.oneCell') = true := by simp [itvC, Value.oneCell']
theorem setC_all (n : Int) (a : Option Addr) (len cap : Nat) : (#[Value.int .i64 n, .slice a len cap] : Array Value).all (·.oneCell') = true := by simp [Value.oneCell']
theorem itvSize : (Tryz.prog.info? 64).map (·.size) = some 4 := by kernel_rfl
theorem strSize : (Tryz.prog.info? 9).map (·.size) = some 1 := by kernel_rfl
theorem intSize : (Tryz.prog.info? 3).map (·.size) = some 1 := by kernel_rfl
theorem itvsSize : (Tryz.prog.info? 23).map (·.size) = some 1 := by kernel_rfl
theorem high_set (a : Option V.Cut) (c : V.Bs) (af : Bool) : ((itvC (V.mkI a none)).setIfInBounds 2 (.string ⟨c.toArray⟩)).setIfInBounds 3 (.int .i64 (if af then 1 else 2)) = itvC (V.mkI a (some (c, af))) := rfl

/-- what the loop of built keeps -/
structure BInv (n : Int) (first : Bool) (R : List V.Cut) (w : World) (k : Nat) (D : List V.Itv) (u : Value) (cur : V.Itv) (W : World) : Prop where
  row : ItRow W (w.heap.size + 1 + 1 + 1) u D
  res : W.heap[w.heap.size]? = some (.cells #[.int .i64 0, .slice none 0 0] 25 (0, 0))
  out : W.heap[w.heap.size + 1]? = some (.cells #[.int .i64 n, u] 25 (0, 0))
  box : W.heap[w.heap.size + 1 + 1]? = some (.cells (itvC cur) 64 (0, 0))
  below : Below w.heap.size w W
  size : w.heap.size + 1 + 1 + 1 ≤ W.heap.size
  isOpen : V.par first k = true → ∃ a, cur = V.mkI a none ∧ V.ofC (V.start first) R = D ++ V.ofC (some a) (R.drop k)
  shut : V.par first k = false → V.ofC (V.start first) R = D ++ V.ofC none (R.drop k)
  len : D.length ≤ k

set_option maxRecDepth 100000 in
set_option maxHeartbeats 3200000 in
theorem rgBuilt_any (n : Int) (first : Bool) (v : Value) (R : List V.Cut) (w : World) (hv : Bords w v (V.alt first R)) (hl : R.length ≤ 1000) :
    Calls Tryz.prog 75 #[.int .i64 n, .bool first, v] w fun e w' => ∃ u, e = .returned (setV n u) ∧ Itvs w' u (V.ofC (V.start first) R) ∧ (∀ c, u.ownBlock = some c → w.heap.size ≤ c) ∧ Below w.heap.size w w' := by
  have HV := Lib.hid hv
  obtain ⟨va, vc, rfl⟩ := hv.slice
  have hal := V.alt_len first R
  have HAL := Lib.hid hal
  rw [hal]
  rw [hal] at HV
  clear hv hal
  go_enter Tryz.func75, Tryz.ntmps75
  go_wp2_with fail
  have HI : Hid (BInv n first R w 0 [] (.slice none 0 0) V.noI (((w.alloc (.cells #[.int .i64 0, .slice none 0 0] 25)).alloc (.cells #[.int .i64 n, .slice none 0 0] 25)).alloc (.cells #[.string ⟨#[]⟩, .int .i64 0, .string ⟨#[]⟩, .int .i64 0] 64))) := Lib.hid (by
    refine ⟨GRow.nil _ _, (three_heap w _ _ _).1, (three_heap w _ _ _).2.1, (three_heap w _ _ _).2.2.1, (((Below.refl _ _).alloc (Nat.le_refl _) _).alloc (by simp) _).alloc (by simp; omega) _, by simp, fun h => ?_, fun h => ?_, by simp⟩
    · rw [V.par_zero] at h
      subst h
      exact ⟨none, rfl, rfl⟩
    · rw [V.par_zero] at h
      subst h
      rfl)
  generalize ((w.alloc (.cells #[.int .i64 0, .slice none 0 0] 25)).alloc (.cells #[.int .i64 n, .slice none 0 0] 25)).alloc (.cells #[.string ⟨#[]⟩, .int .i64 0, .string ⟨#[]⟩, .int .i64 0] 64) = w0 at *
  go_loopw [9, 17] (fun bv iv wx => ∃ (k : Nat) (D : List V.Itv) (u : Value) (cur : V.Itv), k ≤ R.length ∧ iv = .int .i64 k ∧ bv = .bool (V.par first k) ∧ BInv n first R w k D u cur wx) (fun _ iv _ => R.length - (intOf iv).toNat)
  case atStart => exact ⟨0, [], _, V.noI, Nat.zero_le _, rfl, rfl, HI.out⟩
  case round =>
    obtain ⟨k, D, u, cur, hk, rfl, rfl, hinv⟩ := hrel
    have HINV := Lib.hid hinv
    obtain ⟨ua, uc, rfl⟩ := GRow.slice hinv.row
    clear hinv
    by_cases hlt : k < R.length
    · obtain ⟨g, off, rfl, hgl, h0, h1, h2⟩ := HV.out.at k (by rw [HAL.out]; exact hlt)
      have hB := HINV.out.below
      have h0' := below_keep hB h0
      have h1' := below_keep hB h1
      have h2' := below_keep hB h2
      have hat := V.alt_at first R k hlt
      have hge : (V.alt first R)[k]'(by rw [HAL.out]; exact hlt) = (R[k], V.par first (k + 1)) := by
        have := List.getElem?_eq_getElem (l := V.alt first R) (i := k) (by rw [HAL.out]; exact hlt)
        rw [hat] at this
        exact (Option.some.inj this).symm
      rw [hge] at h0' h1' h2'
      rw [V.par_succ] at h2'
      have hi1 : (0 : Int) ≤ (k : Int) := by omega
      have hi2 : (k : Int) < (R.length : Int) := by omega
      have HDR : Hid (R.drop k = R[k] :: R.drop (k + 1)) := Lib.hid (List.drop_eq_getElem_cons hlt)
      clear h0 h1 h2 hat hge hB
      obtain ⟨⟨c, af⟩, hc⟩ : ∃ c, c = R[k] := ⟨_, rfl⟩
      rw [← hc] at h0' h1' HDR
      simp only at h0' h1'
      clear hc
      have hb1 : Below wr.heap.size wr (wr.alloc (.cells #[.string ⟨c.toArray⟩, .bool af, .bool (!V.par first k)] 89)) := (Below.refl _ wr).alloc (Nat.le_refl _) _
      have hsz := HINV.out.size
      have K6 := hb1.block _ (show w.heap.size < wr.heap.size by omega)
      have K7 := hb1.block _ (show w.heap.size + 1 < wr.heap.size by omega)
      have K8 := hb1.block _ (show w.heap.size + 1 + 1 < wr.heap.size by omega)
      rw [HINV.out.res] at K6
      rw [HINV.out.out] at K7
      rw [HINV.out.box] at K8
      have HK := Lib.hid (And.intro K6 (And.intro K7 K8))
      have HB1 := Lib.hid (HINV.out.below.trans (hb1.mono HINV.out.below.size))
      have HR1 := Lib.hid (GRow.below HINV.out.row hb1)
      have hsz1 : w.heap.size + 1 + 1 + 1 ≤ (wr.alloc (.cells #[.string ⟨c.toArray⟩, .bool af, .bool (!V.par first k)] 89)).heap.size := by simp; omega
      have n0 : (wr.alloc (.cells #[.string ⟨c.toArray⟩, .bool af, .bool (!V.par first k)] 89)).cell? ⟨wr.heap.size, 0, none⟩ = some (.string ⟨c.toArray⟩) := by rw [World.cell?_alloc_new]; rfl
      have n1 : (wr.alloc (.cells #[.string ⟨c.toArray⟩, .bool af, .bool (!V.par first k)] 89)).cell? ⟨wr.heap.size, 1, none⟩ = some (.bool af) := by rw [World.cell?_alloc_new]; rfl
      have n2 : (wr.alloc (.cells #[.string ⟨c.toArray⟩, .bool af, .bool (!V.par first k)] 89)).cell? ⟨wr.heap.size, 2, none⟩ = some (.bool (!V.par first k)) := by rw [World.cell?_alloc_new]; rfl
      clear K6 K7 K8 hb1
      have hne6 : wr.heap.size ≠ w.heap.size := by omega
      have hne7 : wr.heap.size ≠ w.heap.size + 1 := by omega
      have hne8 : wr.heap.size ≠ w.heap.size + 1 + 1 := by omega
      rcases hp : V.par first k with _ | _
      · have HSH := Lib.hid (HINV.out.shut hp)
        have HP1 : Hid (V.par first (k + 1) = true) := Lib.hid (by rw [V.par_succ, hp]; rfl)
        have HLD := Lib.hid HINV.out.len
        rw [hp] at h2' n2 hsz1 n1 n0 HR1 HB1 HK
        simp only [Bool.not_false] at h2' n2 hsz1 n1 n0 HR1 HB1 HK
        rw [HDR.out] at HSH
        have FIN : ∀ W2 : World, PutAt (wr.alloc (.cells #[.string ⟨c.toArray⟩, .bool af, .bool true] 89)) W2 (w.heap.size + 1 + 1) (itvC (V.mkI (some (c, af)) none)) 64 → BInv n first R w (k + 1) D (.slice ua D.length uc) (V.mkI (some (c, af)) none) W2 := fun W2 hp2 => by
          refine ⟨hp2.row HR1.out (by omega), hp2.other HK.out.1 (by omega), hp2.other HK.out.2.1 (by omega), hp2.here, hp2.below HB1.out (by omega), by rw [hp2.size]; exact hsz1, fun _ => ⟨some (c, af), rfl, HSH.out⟩, fun h => ?_, by have := HLD.out; omega⟩
          rw [HP1.out] at h
          cases h
        have HFIN := Lib.hid FIN
        clear FIN
        cases af
        · go_wp2_with (first | (refine wl_putRow rfl _ _ _ rfl (w.heap.size + 1 + 1) (itvC cur) _ HK.out.2.2 rfl (itvC (V.mkI (some (c, false)) none)) rfl rfl itvSize (itvC_all _) ?_; intro W2 hp2; have q2 := hp2.cell n2 hne8) | fail)
          have HIN := Lib.hid (HFIN.out W2 hp2)
          clear hp2
          go_roundw
          case rel => exact ⟨k + 1, D, _, _, by omega, by go_num, by rw [HP1.out], HIN.out⟩
          case measure => simp [intOf]; omega
        · go_wp2_with (first | (refine wl_putRow rfl _ _ _ rfl (w.heap.size + 1 + 1) (itvC cur) _ HK.out.2.2 rfl (itvC (V.mkI (some (c, true)) none)) rfl rfl itvSize (itvC_all _) ?_; intro W2 hp2; have q2 := hp2.cell n2 hne8) | fail)
          have HIN := Lib.hid (HFIN.out W2 hp2)
          clear hp2
          go_roundw
          case rel => exact ⟨k + 1, D, _, _, by omega, by go_num, by rw [HP1.out], HIN.out⟩
          case measure => simp [intOf]; omega
      · obtain ⟨a, rfl, hof⟩ := HINV.out.isOpen hp
        have HOF := Lib.hid hof
        have HP1 : Hid (V.par first (k + 1) = false) := Lib.hid (by rw [V.par_succ, hp]; rfl)
        have HLD := Lib.hid HINV.out.len
        have HLT := Lib.hid (GRow.lt HINV.out.row)
        have HBL := Lib.hid (GRow.block HINV.out.row)
        rw [hp] at h2' n2 hsz1 n1 n0 HR1 HB1 HK
        simp only [Bool.not_true] at h2' n2 hsz1 n1 n0 HR1 HB1 HK
        rw [HDR.out] at HOF
        clear hof
        cases af
        · have HY : Hid ((V.ofC (V.start first) R) = (D ++ [V.mkI a (some (c, false))]) ++ V.ofC none (R.drop (k + 1))) := Lib.hid (by rw [HOF.out, List.append_assoc]; rfl)
          go_wp2_with (first
            | (refine wl_put1 rfl 9 _ _ rfl (w.heap.size + 1 + 1) 2 (itvC (V.mkI a none)) _ HK.out.2.2 (by simp [itvC]) rfl (.string ⟨c.toArray⟩) rfl strSize rfl ?_; intro W2 hp2; have q0 := hp2.cell n0 hne8; have q1 := hp2.cell n1 hne8; have q2 := hp2.cell n2 hne8)
            | (refine wl_put1 rfl 3 _ _ rfl (w.heap.size + 1 + 1) 3 ((itvC (V.mkI a none)).setIfInBounds 2 (.string ⟨c.toArray⟩)) _ hp2.here (by simp [itvC]) rfl (.int .i64 2) rfl intSize rfl ?_; intro W3 hp3; have r2 := hp3.cell q2 hne8; have t1 : W3.cell? ⟨w.heap.size + 1, 1, none⟩ = some (.slice ua D.length uc) := Lib.cell_of_heap (hp3.other (hp2.other HK.out.2.1 (by omega)) (by omega)) 1; have u0 : W3.cell? ⟨w.heap.size + 1 + 1, 0, none⟩ = some (.string ⟨(V.mkI a (some (c, false))).lo.toArray⟩) := Lib.cell_of_heap hp3.here 0; have u1 : W3.cell? ⟨w.heap.size + 1 + 1, 1, none⟩ = some (.int .i64 (V.mkI a (some (c, false))).lk) := Lib.cell_of_heap hp3.here 1; have u2 : W3.cell? ⟨w.heap.size + 1 + 1, 2, none⟩ = some (.string ⟨(V.mkI a (some (c, false))).hi.toArray⟩) := Lib.cell_of_heap hp3.here 2; have u3 : W3.cell? ⟨w.heap.size + 1 + 1, 3, none⟩ = some (.int .i64 (V.mkI a (some (c, false))).hk) := Lib.cell_of_heap hp3.here 3)
            | (refine wl_appendG itvE_len (by decide) itvE_one itvInfo (by decide) rfl _ _ 23 rfl Tryz.underlying23 (w.heap.size + 1 + 1 + 1) (.slice ua D.length uc) D rfl (GRow.below (hp3.row (hp2.row HR1.out (by omega)) (by omega)) ((Below.refl _ W3).alloc (Nat.le_refl _) _)) W3.heap.size (V.mkI a (some (c, false))) rfl (fun j u hu => by rw [World.cell?_alloc_new]; simpa [itvE] using hu) (by have := HLD.out; omega) (by have e3 := hp3.size; have e2 := hp2.size; simp; omega) ?_; intro v5 W5 hr5 hg5)
            | (refine wl_put1 rfl 23 _ _ rfl (w.heap.size + 1) 1 #[.int .i64 n, .slice ua D.length uc] _ (grown_block hg5 HBL.out (by omega) (((Below.refl _ W3).alloc (Nat.le_refl _) _).block _ (by have e3 := hp3.size; have e2 := hp2.size; omega) |>.trans (hp3.other (hp2.other HK.out.2.1 (by omega)) (by omega)))) (by simp) rfl v5 rfl itvsSize (by obtain ⟨_, _, e⟩ := GRow.slice hr5; rw [e]; rfl) ?_; intro W6 hp6)
            | fail)
          have e3 := hp3.size
          have e2 := hp2.size
          have hbA := (Below.refl W3.heap.size W3).alloc (Nat.le_refl _) (.cells (itvC (V.mkI a (some (c, false)))) 64)
          have HIN : Hid (BInv n first R w (k + 1) (D ++ [V.mkI a (some (c, false))]) v5 (V.mkI a (some (c, false))) W6) := Lib.hid (by
            have hB3 : Below w.heap.size w W3 := hp3.below (hp2.below HB1.out (by omega)) (by omega)
            have hB5 : Below w.heap.size w W5 := (hB3.trans (hbA.mono hB3.size)).trans (grown_below2 hg5 HBL.out (by omega) (by show w.heap.size + 1 + 1 + 1 ≤ (W3.alloc _).heap.size; simp; omega))
            refine ⟨hp6.row hr5 (by omega), hp6.other (grown_block hg5 HBL.out (by omega) ((hbA.block _ (by omega)).trans (hp3.other (hp2.other HK.out.1 (by omega)) (by omega)))) (by omega), hp6.here, hp6.other (grown_block hg5 HBL.out (by omega) ((hbA.block _ (by omega)).trans hp3.here)) (by omega), hp6.below hB5 (by omega), ?_, fun h => ?_, fun _ => HY.out, ?_⟩
            · have := hg5.size; rw [hp6.size]; simp at this; omega
            · rw [HP1.out] at h; cases h
            · have := HLD.out; simp; omega)
          clear hp2 hp3 hr5 hg5 hp6 hbA
          go_roundw
          case rel => exact ⟨k + 1, _, _, _, by omega, by go_num, by rw [HP1.out], HIN.out⟩
          case measure => simp [intOf]; omega
        · have HY : Hid ((V.ofC (V.start first) R) = (D ++ [V.mkI a (some (c, true))]) ++ V.ofC none (R.drop (k + 1))) := Lib.hid (by rw [HOF.out, List.append_assoc]; rfl)
          go_wp2_with (first
            | (refine wl_put1 rfl 9 _ _ rfl (w.heap.size + 1 + 1) 2 (itvC (V.mkI a none)) _ HK.out.2.2 (by simp [itvC]) rfl (.string ⟨c.toArray⟩) rfl strSize rfl ?_; intro W2 hp2; have q0 := hp2.cell n0 hne8; have q1 := hp2.cell n1 hne8; have q2 := hp2.cell n2 hne8)
            | (refine wl_put1 rfl 3 _ _ rfl (w.heap.size + 1 + 1) 3 ((itvC (V.mkI a none)).setIfInBounds 2 (.string ⟨c.toArray⟩)) _ hp2.here (by simp [itvC]) rfl (.int .i64 1) rfl intSize rfl ?_; intro W3 hp3; have r2 := hp3.cell q2 hne8; have t1 : W3.cell? ⟨w.heap.size + 1, 1, none⟩ = some (.slice ua D.length uc) := Lib.cell_of_heap (hp3.other (hp2.other HK.out.2.1 (by omega)) (by omega)) 1; have u0 : W3.cell? ⟨w.heap.size + 1 + 1, 0, none⟩ = some (.string ⟨(V.mkI a (some (c, true))).lo.toArray⟩) := Lib.cell_of_heap hp3.here 0; have u1 : W3.cell? ⟨w.heap.size + 1 + 1, 1, none⟩ = some (.int .i64 (V.mkI a (some (c, true))).lk) := Lib.cell_of_heap hp3.here 1; have u2 : W3.cell? ⟨w.heap.size + 1 + 1, 2, none⟩ = some (.string ⟨(V.mkI a (some (c, true))).hi.toArray⟩) := Lib.cell_of_heap hp3.here 2; have u3 : W3.cell? ⟨w.heap.size + 1 + 1, 3, none⟩ = some (.int .i64 (V.mkI a (some (c, true))).hk) := Lib.cell_of_heap hp3.here 3)
            | (refine wl_appendG itvE_len (by decide) itvE_one itvInfo (by decide) rfl _ _ 23 rfl Tryz.underlying23 (w.heap.size + 1 + 1 + 1) (.slice ua D.length uc) D rfl (GRow.below (hp3.row (hp2.row HR1.out (by omega)) (by omega)) ((Below.refl _ W3).alloc (Nat.le_refl _) _)) W3.heap.size (V.mkI a (some (c, true))) rfl (fun j u hu => by rw [World.cell?_alloc_new]; simpa [itvE] using hu) (by have := HLD.out; omega) (by have e3 := hp3.size; have e2 := hp2.size; simp; omega) ?_; intro v5 W5 hr5 hg5)
            | (refine wl_put1 rfl 23 _ _ rfl (w.heap.size + 1) 1 #[.int .i64 n, .slice ua D.length uc] _ (grown_block hg5 HBL.out (by omega) (((Below.refl _ W3).alloc (Nat.le_refl _) _).block _ (by have e3 := hp3.size; have e2 := hp2.size; omega) |>.trans (hp3.other (hp2.other HK.out.2.1 (by omega)) (by omega)))) (by simp) rfl v5 rfl itvsSize (by obtain ⟨_, _, e⟩ := GRow.slice hr5; rw [e]; rfl) ?_; intro W6 hp6)
            | fail)
          have e3 := hp3.size
          have e2 := hp2.size
          have hbA := (Below.refl W3.heap.size W3).alloc (Nat.le_refl _) (.cells (itvC (V.mkI a (some (c, true)))) 64)
          have HIN : Hid (BInv n first R w (k + 1) (D ++ [V.mkI a (some (c, true))]) v5 (V.mkI a (some (c, true))) W6) := Lib.hid (by
            have hB3 : Below w.heap.size w W3 := hp3.below (hp2.below HB1.out (by omega)) (by omega)
            have hB5 : Below w.heap.size w W5 := (hB3.trans (hbA.mono hB3.size)).trans (grown_below2 hg5 HBL.out (by omega) (by show w.heap.size + 1 + 1 + 1 ≤ (W3.alloc _).heap.size; simp; omega))
            refine ⟨hp6.row hr5 (by omega), hp6.other (grown_block hg5 HBL.out (by omega) ((hbA.block _ (by omega)).trans (hp3.other (hp2.other HK.out.1 (by omega)) (by omega)))) (by omega), hp6.here, hp6.other (grown_block hg5 HBL.out (by omega) ((hbA.block _ (by omega)).trans hp3.here)) (by omega), hp6.below hB5 (by omega), ?_, fun h => ?_, fun _ => HY.out, ?_⟩
            · have := hg5.size; rw [hp6.size]; simp at this; omega
            · rw [HP1.out] at h; cases h
            · have := HLD.out; simp; omega)
          clear hp2 hp3 hr5 hg5 hp6 hbA
          go_roundw
          case rel => exact ⟨k + 1, _, _, _, by omega, by go_num, by rw [HP1.out], HIN.out⟩
          case measure => simp [intOf]; omega
    · obtain rfl : k = R.length := by omega
      have HDR : Hid (R.drop R.length = []) := Lib.hid (List.drop_length ..)
      have hsz := HINV.out.size
      have k7 : wr.cell? ⟨w.heap.size + 1, 1, none⟩ = some (.slice ua D.length uc) := Lib.cell_of_heap HINV.out.out 1
      have k70 : wr.cell? ⟨w.heap.size + 1, 0, none⟩ = some (.int .i64 n) := Lib.cell_of_heap HINV.out.out 0
      have u0 : wr.cell? ⟨w.heap.size + 1 + 1, 0, none⟩ = some (.string ⟨cur.lo.toArray⟩) := Lib.cell_of_heap HINV.out.box 0
      have u1 : wr.cell? ⟨w.heap.size + 1 + 1, 1, none⟩ = some (.int .i64 cur.lk) := Lib.cell_of_heap HINV.out.box 1
      have u2 : wr.cell? ⟨w.heap.size + 1 + 1, 2, none⟩ = some (.string ⟨cur.hi.toArray⟩) := Lib.cell_of_heap HINV.out.box 2
      have u3 : wr.cell? ⟨w.heap.size + 1 + 1, 3, none⟩ = some (.int .i64 cur.hk) := Lib.cell_of_heap HINV.out.box 3
      have HLD := Lib.hid HINV.out.len
      have HLT := Lib.hid (GRow.lt HINV.out.row)
      have HBL := Lib.hid (GRow.block HINV.out.row)
      rcases hp : V.par first R.length with _ | _
      · have HO : Hid (V.ofC (V.start first) R = D) := Lib.hid (by rw [HINV.out.shut hp, HDR.out]; exact List.append_nil _)
        go_wp2_with (first
          | (refine wl_putRow rfl 25 _ _ rfl w.heap.size #[.int .i64 0, .slice none 0 0] _ HINV.out.res rfl #[.int .i64 n, .slice ua D.length uc] rfl rfl (by kernel_rfl) (setC_all _ _ _ _) ?_; intro W2 hp2; have z0 : W2.cell? ⟨w.heap.size, 0, none⟩ = some (.int .i64 n) := Lib.cell_of_heap hp2.here 0; have z1 : W2.cell? ⟨w.heap.size, 1, none⟩ = some (.slice ua D.length uc) := Lib.cell_of_heap hp2.here 1)
          | fail)
        have HB : Hid (Below w.heap.size w W2) := Lib.hid (hp2.below HINV.out.below (Nat.le_refl _))
        have HIV : Hid (Itvs W2 (.slice ua D.length uc) (V.ofC (V.start first) R)) := Lib.hid (by rw [HO.out]; exact ItRow.itvs (hp2.row HINV.out.row (by omega)))
        have HOW : Hid (∀ c, (Value.slice ua D.length uc).ownBlock = some c → w.heap.size ≤ c) := Lib.hid (fun c hc => by have := HBL.out c hc; omega)
        clear hp2
        exact bodyPost_ret (v := .agg #[.int .i64 n, .slice ua D.length uc]) (by simp [results, Tryz.results75, go_sem, z0, z1]) rfl ⟨_, rfl, HIV.out, HOW.out, HB.out⟩
      · obtain ⟨a, rfl, hof⟩ := HINV.out.isOpen hp
        have HO : Hid (V.ofC (V.start first) R = D ++ [V.mkI a none]) := Lib.hid (by rw [hof, HDR.out]; rfl)
        clear hof
        go_wp2_with (first
          | (refine wl_appendG itvE_len (by decide) itvE_one itvInfo (by decide) rfl _ _ 23 rfl Tryz.underlying23 (w.heap.size + 1 + 1 + 1) (.slice ua D.length uc) D rfl (GRow.below HINV.out.row ((Below.refl _ wr).alloc (Nat.le_refl _) _)) wr.heap.size (V.mkI a none) rfl (fun j u hu => by rw [World.cell?_alloc_new]; simpa [itvE] using hu) (by have := HLD.out; omega) (by simp; omega) ?_; intro v5 W5 hr5 hg5; have HBA := Lib.hid ((Below.refl wr.heap.size wr).alloc (Nat.le_refl _) (.cells (itvC (V.mkI a none)) 64)); have g6 := grown_block hg5 HBL.out (by omega) ((HBA.out.block _ (by omega)).trans HINV.out.res); have g7 := grown_block hg5 HBL.out (by omega) ((HBA.out.block _ (by omega)).trans HINV.out.out))
          | (refine wl_put1 rfl 23 _ _ rfl (w.heap.size + 1) 1 #[.int .i64 n, .slice ua D.length uc] _ g7 (by simp) rfl v5 rfl itvsSize (by obtain ⟨_, _, e⟩ := GRow.slice hr5; rw [e]; rfl) ?_; intro W6 hp6; have z70 : W6.cell? ⟨w.heap.size + 1, 0, none⟩ = some (.int .i64 n) := Lib.cell_of_heap hp6.here 0; have z71 : W6.cell? ⟨w.heap.size + 1, 1, none⟩ = some v5 := Lib.cell_of_heap hp6.here 1)
          | (refine wl_putRow rfl 25 _ _ rfl w.heap.size #[.int .i64 0, .slice none 0 0] _ (hp6.other g6 (by omega)) rfl #[.int .i64 n, v5] rfl rfl (by kernel_rfl) (by obtain ⟨_, _, e⟩ := GRow.slice hr5; rw [e]; exact setC_all _ _ _ _) ?_; intro W7 hp7; have z0 : W7.cell? ⟨w.heap.size, 0, none⟩ = some (.int .i64 n) := Lib.cell_of_heap hp7.here 0; have z1 : W7.cell? ⟨w.heap.size, 1, none⟩ = some v5 := Lib.cell_of_heap hp7.here 1)
          | fail)
        have HB : Hid (Below w.heap.size w W7) := Lib.hid (hp7.below (hp6.below ((HINV.out.below.trans (HBA.out.mono HINV.out.below.size)).trans (grown_below2 hg5 HBL.out (by omega) (by show w.heap.size + 1 + 1 + 1 ≤ (wr.alloc _).heap.size; simp; omega))) (by omega)) (Nat.le_refl _))
        have HIV : Hid (Itvs W7 v5 (V.ofC (V.start first) R)) := Lib.hid (by rw [HO.out]; exact ItRow.itvs (hp7.row (hp6.row hr5 (by omega)) (by omega)))
        have HOW : Hid (∀ c, v5.ownBlock = some c → w.heap.size ≤ c) := Lib.hid (fun c hc => by have := GRow.block hr5 c hc; omega)
        clear hp7 hp6 hr5 hg5 g6 g7
        exact bodyPost_ret (v := .agg #[.int .i64 n, v5]) (by simp [results, Tryz.results75, go_sem, z0, z1]) rfl ⟨_, rfl, HIV.out, HOW.out, HB.out⟩
end Go.Proofs.YtolojkkhmamddaaGreatDoor

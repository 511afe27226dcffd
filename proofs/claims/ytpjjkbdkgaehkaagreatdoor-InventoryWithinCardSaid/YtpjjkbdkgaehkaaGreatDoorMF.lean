/-
  Walk: Contains of package ranges.
  Walk: borders of package ranges.
  Walk: built of package ranges.
-/
import Derived.Test.YtpjjkbdkgaehkaaGreatDoorMC
import Derived.Test.YtpjjkbdkgaehkaaGreatDoorMK
import Derived.Test.YtpjjkbdkgaehkaaGreatDoorU9
namespace Go.Proofs.YtpjjkbdkgaehkaaGreatDoor
open Go.RowKit

theorem below3 {W0 wa wq : World} (hba : Below W0.drew.heap.size W0.drew wa) (hbq : Below wa.heap.size wa wq) : Below W0.heap.size W0 wq :=
  ((Below.refl W0.heap.size W0).drew).trans (Below.trans (show Below W0.heap.size W0.drew wa from hba) (hbq.mono hba.size))
def hasF (n : Int) (v : V.Bs) (x : V.Itv) : Bool := (decide (x.lk = 0) || decide (V.cutC n x.low (v, false) ≤ 0)) && (decide (x.hk = 0) || decide (0 ≤ V.cutC n x.high (v, true)))
theorem any_step {α : Type} {p : α → Bool} {l : List α} {k : Nat} (h : (l.take k).any p = false) (hk : k < l.length) (hb : p l[k] = false) : (l.take (k + 1)).any p = false := by
  rw [List.take_succ_eq_append_getElem hk, List.any_append, h]
  simpa using hb
theorem any_yes {α : Type} {p : α → Bool} {l : List α} {k : Nat} (hk : k < l.length) (hb : p l[k] = true) : l.any p = true :=
  List.any_eq_true.2 ⟨l[k], List.getElem_mem hk, hb⟩

set_option maxRecDepth 100000 in
set_option maxHeartbeats 3200000 in
theorem rgContains_any (n : Int) (v : Value) (l : List V.Itv) (s : V.Bs) (w : World) (hm : MaxOk w) (hv : Itvs w v l) (hs : Lens l) (hl : l.length ≤ maxLen) (hsl : s.length ≤ maxLen) :
    Calls Tryz.prog 42 #[setV n v, .string ⟨s.toArray⟩] w fun e w' => e = .returned (.bool (V.containsL n l s)) ∧ Below w.heap.size w w' := by
  have HV := Lib.hid hv
  obtain ⟨va, vc, rfl⟩ := hv.slice
  have HL := Lib.hid hl
  have HSL := Lib.hid (show (ByteArray.mk s.toArray).size ≤ maxLen by simpa [ByteArray.size] using hsl)
  unfold maxLen at hl
  have HS := Lib.hid hs
  have HF : Hid (V.containsL n l s = (V.okR n l && (V.valid n s && l.any (hasF n s)))) := Lib.hid rfl
  have hb0 : Below w.heap.size w (w.alloc (.cells #[.int .i64 n, .slice va l.length vc] 39)) := (Below.refl _ w).alloc (Nat.le_refl _) _
  have HB0 := Lib.hid hb0
  have HM := Lib.hid (hm.below hb0)
  have c0 : (w.alloc (.cells #[.int .i64 n, .slice va l.length vc] 39)).cell? ⟨w.heap.size, 0, none⟩ = some (.int .i64 n) := by simp [cell_alloc]
  have c1 : (w.alloc (.cells #[.int .i64 n, .slice va l.length vc] 39)).cell? ⟨w.heap.size, 1, none⟩ = some (.slice va l.length vc) := by simp [cell_alloc]
  have hz0 : w.heap.size < (w.alloc (.cells #[.int .i64 n, .slice va l.length vc] 39)).heap.size := by simp
  clear hv hs hb0 hm hsl
  unfold setV
  go_enter Tryz.func42, Tryz.ntmps42
  go_wp2_with fail
  generalize w.alloc (.cells #[.int .i64 n, .slice va l.length vc] 39) = w0 at *
  refine (rgValid_any n (.slice va l.length vc) l w0 HM.out (HV.out.below HB0.out) HS.out HL.out).mono ?_
  rintro e w1 ⟨rfl, hb1⟩
  have HB1 := Lib.hid (HB0.out.trans (hb1.mono HB0.out.size))
  have HM1 := Lib.hid (HM.out.below hb1)
  have d0 := below_keep hb1 c0
  have d1 := below_keep hb1 c1
  have hz1 : w.heap.size < w1.heap.size := Nat.lt_of_lt_of_le hz0 hb1.size
  clear hb1 c0 c1 hz0 HM
  rcases hok : V.okR n l with _ | _
  · have HR : Hid (V.containsL n l s = false) := Lib.hid (by rw [HF.out, hok]; rfl)
    clear hok
    go_wp2
    go_ret
    exact ⟨ret_bool HR.out.symm, HB1.out⟩
  · have HOK := Lib.hid hok
    clear hok
    go_wp2_with fail
    refine (valid_any n ⟨s.toArray⟩ w1 HM1.out HSL.out).mono ?_
    rintro e w2 ⟨rfl, hb2⟩
    rw [bs_mk]
    have HB2 := Lib.hid (HB1.out.trans (hb2.mono HB1.out.size))
    have HM2 := Lib.hid (HM1.out.below hb2)
    have e0 := below_keep hb2 d0
    have e1 := below_keep hb2 d1
    have hz2 : w.heap.size < w2.heap.size := Nat.lt_of_lt_of_le hz1 hb2.size
    clear hb2 d0 d1 hz1 HM1
    rcases hva : V.valid n s with _ | _
    · have HR : Hid (V.containsL n l s = false) := Lib.hid (by rw [HF.out, HOK.out, hva]; rfl)
      clear hva
      go_wp2
      go_ret
      exact ⟨ret_bool HR.out.symm, HB2.out⟩
    · have HVA := Lib.hid hva
      have HF2 : Hid (V.containsL n l s = l.any (hasF n s)) := Lib.hid (by rw [HF.out, HOK.out, hva]; rfl)
      clear hva
      have HOKS := Lib.hid (V.ok_of HOK.out)
      obtain ⟨hbA, hcA, _, hzA⟩ := two_alloc w2 #[.string ⟨s.toArray⟩, .bool false] #[.string ⟨s.toArray⟩, .bool true] 105 105
      have p0 : ((w2.alloc (.cells #[.string ⟨s.toArray⟩, .bool false] 105)).alloc (.cells #[.string ⟨s.toArray⟩, .bool true] 105)).cell? ⟨w2.heap.size, 0, none⟩ = some (.string ⟨s.toArray⟩) := by simp [cell_alloc]
      have p1 : ((w2.alloc (.cells #[.string ⟨s.toArray⟩, .bool false] 105)).alloc (.cells #[.string ⟨s.toArray⟩, .bool true] 105)).cell? ⟨w2.heap.size, 1, none⟩ = some (.bool false) := by simp [cell_alloc]
      have q0 : ((w2.alloc (.cells #[.string ⟨s.toArray⟩, .bool false] 105)).alloc (.cells #[.string ⟨s.toArray⟩, .bool true] 105)).cell? ⟨w2.heap.size + 1, 0, none⟩ = some (.string ⟨s.toArray⟩) := by rw [hcA 0]; rfl
      have q1 : ((w2.alloc (.cells #[.string ⟨s.toArray⟩, .bool false] 105)).alloc (.cells #[.string ⟨s.toArray⟩, .bool true] 105)).cell? ⟨w2.heap.size + 1, 1, none⟩ = some (.bool true) := by rw [hcA 1]; rfl
      have f0 := below_keep hbA e0
      have f1 := below_keep hbA e1
      have HB3 := Lib.hid (HB2.out.trans (hbA.mono HB2.out.size))
      have HM3 := Lib.hid (HM2.out.below hbA)
      have HPQ := Lib.hid (And.intro f0 (And.intro p0 (And.intro p1 (And.intro q0 q1))))
      clear hcA p0 p1 q0 q1 f0 e0 hzA hbA HM2
      go_wp2
      clear f1 e1
      generalize (w2.alloc (.cells #[.string ⟨s.toArray⟩, .bool false] 105)).alloc (.cells #[.string ⟨s.toArray⟩, .bool true] 105) = W at *
      go_loopw [28] (fun iv wx => ∃ k : Nat, k ≤ l.length ∧ iv = .int .i64 k ∧ (l.take k).any (hasF n s) = false ∧ Below W.heap.size W wx) (fun iv _ => l.length - (intOf iv).toNat)
      case atStart => exact ⟨0, Nat.zero_le _, rfl, rfl, Below.refl _ _⟩
      case round =>
        obtain ⟨k, hk, rfl, hz, hbx⟩ := hrel
        have HZ := Lib.hid hz
        have HBX := Lib.hid hbx
        have HBF := Lib.hid (HB3.out.trans (hbx.mono HB3.out.size))
        clear hz hbx
        by_cases hlt : k < l.length
        · obtain ⟨b, off, rfl, hb0, hx⟩ := HV.out.at k hlt
          obtain ⟨h0, h1, h2, h3⟩ := hx.below hb0 HBF.out
          have hi1 : (0 : Int) ≤ (k : Int) := by omega
          have hi2 : (k : Int) < (l.length : Int) := by omega
          have HBK : Hid (V.boundsB n l[k] = true) := Lib.hid (HOKS.out.bnd _ (List.getElem_mem hlt))
          have HYES := Lib.hid (fun hb => any_step (p := hasF n s) HZ.out hlt hb)
          have HNO := Lib.hid (fun hb => any_yes (p := hasF n s) hlt hb)
          clear hx
          generalize l[k] = x at *
          have HXF : Hid (hasF n s x = ((decide (x.lk = 0) || decide (V.cutC n x.low (s, false) ≤ 0)) && (decide (x.hk = 0) || decide (0 ≤ V.cutC n x.high (s, true))))) := Lib.hid rfl
          have hbA : Below wr.heap.size wr (wr.alloc (.cells #[.string ⟨x.lo.toArray⟩, .int .i64 x.lk, .string ⟨x.hi.toArray⟩, .int .i64 x.hk] 80)) := (Below.refl _ wr).alloc (Nat.le_refl _) _
          have HM1 := Lib.hid ((HM3.out.below HBX.out).below hbA)
          have HBA := Lib.hid (HBX.out.trans (hbA.mono HBX.out.size))
          have m0 := below_keep HBA.out HPQ.out.1
          have m1 := below_keep HBA.out HPQ.out.2.1
          have m2 := below_keep HBA.out HPQ.out.2.2.1
          have m3 := below_keep HBA.out HPQ.out.2.2.2.1
          have m4 := below_keep HBA.out HPQ.out.2.2.2.2
          have hx4 : ItvAt (wr.alloc (.cells #[.string ⟨x.lo.toArray⟩, .int .i64 x.lk, .string ⟨x.hi.toArray⟩, .int .i64 x.hk] 80)) wr.heap.size 0 x := by
            refine ⟨?_, ?_, ?_, ?_⟩ <;> simp [cell_alloc]
          have HX4 := Lib.hid hx4
          clear hbA hx4
          go_wp2_with fail
          generalize wr.alloc (.cells #[.string ⟨x.lo.toArray⟩, .int .i64 x.lk, .string ⟨x.hi.toArray⟩, .int .i64 x.hk] 80) = W1 at *
          obtain ⟨d0, d1, d2, d3⟩ := HX4.out
          rw [Nat.zero_add] at d1 d2 d3
          clear h0 h1 h2 h3
          obtain ⟨P, hP⟩ : ∃ P, P = (decide (x.lk = 0) || decide (V.cutC n x.low (s, false) ≤ 0)) := ⟨_, rfl⟩
          obtain ⟨Q, hQ⟩ : ∃ Q, Q = (decide (x.hk = 0) || decide (0 ≤ V.cutC n x.high (s, true))) := ⟨_, rfl⟩
          have HP := Lib.hid hP
          have HQ := Lib.hid hQ
          have HXF2 : Hid (hasF n s x = (P && Q)) := Lib.hid (by rw [HXF.out, hP, hQ])
          clear hP hQ
          rcases hlk : (x.lk == 0) with _ | _
          · have i1 : x.lk ≠ 0 := by simpa using hlk
            have hlow := V.low_valid HBK.out i1
            have HPT0 : Hid (P = decide (V.cutC n x.low (s, false) ≤ 0)) := Lib.hid (by rw [HP.out, decide_eq_false i1]; rfl)
            clear i1
            go_region_held3 (fun W' => MaxOk W' ∧ W'.cell? ⟨wr.heap.size, 0, none⟩ = some (.string ⟨x.lo.toArray⟩) ∧ W'.cell? ⟨wr.heap.size, 1, none⟩ = some (.int .i64 x.lk) ∧ W'.cell? ⟨wr.heap.size, 2, none⟩ = some (.string ⟨x.hi.toArray⟩) ∧ W'.cell? ⟨wr.heap.size, 3, none⟩ = some (.int .i64 x.hk) ∧
              W'.cell? ⟨w.heap.size, 0, none⟩ = some (.int .i64 n) ∧ W'.cell? ⟨w2.heap.size, 0, none⟩ = some (.string ⟨s.toArray⟩) ∧ W'.cell? ⟨w2.heap.size, 1, none⟩ = some (.bool false))
              (first
                | (go_split_ands; exact ⟨MaxOk.below (by assumption) hbq, below_keep hbq (by assumption), below_keep hbq (by assumption), below_keep hbq (by assumption), below_keep hbq (by assumption), below_keep hbq (by assumption), below_keep hbq (by assumption), below_keep hbq (by assumption)⟩)
                | (exact ⟨HM1.out, d0, d1, d2, d3, m0, m1, m2⟩)
                | go_keep)
              (first
                | (go_at_call 70; refine (rgLow_any x _).mono ?_; rintro e wq ⟨rfl, hbq⟩)
                | (go_at_call 69; refine (rgCompare_any n x.low (s, false) _ (by first | assumption | exact And.left (by assumption)) HOKS.out.sch hlow HVA.out).mono ?_; rintro e wq ⟨rfl, hbq⟩))
            rename_i wa hba hS
            have HB5 := Lib.hid (below3 hba hbq)
            rw [← HPT0.out]
            clear hba hbq hS HPT0
            generalize wq = W2 at *
            have k0 := below_keep HB5.out d0
            have k1 := below_keep HB5.out d1
            have k2 := below_keep HB5.out d2
            have k3 := below_keep HB5.out d3
            have n0 := below_keep HB5.out m0
            have n3 := below_keep HB5.out m3
            have n4 := below_keep HB5.out m4
            have HM5 := Lib.hid (HM1.out.below HB5.out)
            have HB6 := Lib.hid (HBA.out.trans (HB5.out.mono HBA.out.size))
            clear d0 d1 d2 d3 m0 m1 m2 m3 m4 HB5 HM1
            go_wp2_with fail
            rcases hhk : (x.hk == 0) with _ | _
            · have i1 : x.hk ≠ 0 := by simpa using hhk
              have hhigh := V.high_valid HBK.out i1
              have HQT0 : Hid (Q = decide (0 ≤ V.cutC n x.high (s, true))) := Lib.hid (by rw [HQ.out, decide_eq_false i1]; rfl)
              clear i1
              go_region_held3 (fun W' => MaxOk W' ∧ W'.cell? ⟨wr.heap.size, 0, none⟩ = some (.string ⟨x.lo.toArray⟩) ∧ W'.cell? ⟨wr.heap.size, 1, none⟩ = some (.int .i64 x.lk) ∧ W'.cell? ⟨wr.heap.size, 2, none⟩ = some (.string ⟨x.hi.toArray⟩) ∧ W'.cell? ⟨wr.heap.size, 3, none⟩ = some (.int .i64 x.hk) ∧
                W'.cell? ⟨w.heap.size, 0, none⟩ = some (.int .i64 n) ∧ W'.cell? ⟨w2.heap.size + 1, 0, none⟩ = some (.string ⟨s.toArray⟩) ∧ W'.cell? ⟨w2.heap.size + 1, 1, none⟩ = some (.bool true))
                (first
                  | (go_split_ands; exact ⟨MaxOk.below (by assumption) hbq, below_keep hbq (by assumption), below_keep hbq (by assumption), below_keep hbq (by assumption), below_keep hbq (by assumption), below_keep hbq (by assumption), below_keep hbq (by assumption), below_keep hbq (by assumption)⟩)
                  | (exact ⟨HM5.out, k0, k1, k2, k3, n0, n3, n4⟩)
                  | go_keep)
                (first
                  | (go_at_call 71; refine (rgHigh_any x _).mono ?_; rintro e wq ⟨rfl, hbq⟩)
                  | (go_at_call 69; refine (rgCompare_any n x.high (s, true) _ (by first | assumption | exact And.left (by assumption)) HOKS.out.sch hhigh HVA.out).mono ?_; rintro e wq ⟨rfl, hbq⟩))
              rename_i wa hba hS
              have hb7 := below3 hba hbq
              have HB7 := Lib.hid (HB6.out.trans (hb7.mono HB6.out.size))
              rw [← HQT0.out]
              clear hb7 hba hbq hS k0 k1 k2 k3 n0 n3 n4 HQT0
              generalize wq = W3 at *
              rcases hpv : P with _ | _
              · have HPT := Lib.hid hpv
                clear hpv
                rcases hqv : Q with _ | _
                · have HQT := Lib.hid hqv
                  clear hqv
                  have HY := Lib.hid (HYES.out (by rw [HXF2.out, HPT.out, HQT.out]; rfl))
                  go_wp2
                  go_roundw
                  case rel => exact ⟨k + 1, by omega, by go_num, HY.out, HB7.out⟩
                  case measure => simp [intOf]; omega
                · have HQT := Lib.hid hqv
                  clear hqv
                  have HY := Lib.hid (HYES.out (by rw [HXF2.out, HPT.out, HQT.out]; rfl))
                  go_wp2
                  go_roundw
                  case rel => exact ⟨k + 1, by omega, by go_num, HY.out, HB7.out⟩
                  case measure => simp [intOf]; omega
              · have HPT := Lib.hid hpv
                clear hpv
                rcases hqv : Q with _ | _
                · have HQT := Lib.hid hqv
                  clear hqv
                  have HY := Lib.hid (HYES.out (by rw [HXF2.out, HPT.out, HQT.out]; rfl))
                  go_wp2
                  go_roundw
                  case rel => exact ⟨k + 1, by omega, by go_num, HY.out, HB7.out⟩
                  case measure => simp [intOf]; omega
                · have HQT := Lib.hid hqv
                  clear hqv
                  have HR : Hid (V.containsL n l s = true) := Lib.hid (by rw [HF2.out]; exact HNO.out (by rw [HXF2.out, HPT.out, HQT.out]; rfl))
                  go_wp2
                  go_ret
                  exact ⟨ret_bool HR.out.symm, HB3.out.trans (HB7.out.mono HB3.out.size)⟩
            · have HQT : Hid (Q = true) := Lib.hid (by rw [HQ.out, decide_eq_true (eq_of_beq hhk)]; rfl)
              go_quiet (fail)
              have HB7 := Lib.hid (below_drewN HB6.out nq)
              generalize W2.drewN nq = W3 at *
              clear k0 k1 k2 k3 n0 n3 n4
              rcases hpv : P with _ | _
              · have HPT := Lib.hid hpv
                clear hpv
                have HY := Lib.hid (HYES.out (by rw [HXF2.out, HPT.out, HQT.out]; rfl))
                go_wp2
                go_roundw
                case rel => exact ⟨k + 1, by omega, by go_num, HY.out, HB7.out⟩
                case measure => simp [intOf]; omega
              · have HPT := Lib.hid hpv
                clear hpv
                have HR : Hid (V.containsL n l s = true) := Lib.hid (by rw [HF2.out]; exact HNO.out (by rw [HXF2.out, HPT.out, HQT.out]; rfl))
                go_wp2
                go_ret
                exact ⟨ret_bool HR.out.symm, HB3.out.trans (HB7.out.mono HB3.out.size)⟩
          · have HPT : Hid (P = true) := Lib.hid (by rw [HP.out, decide_eq_true (eq_of_beq hlk)]; rfl)
            go_quiet (fail)
            have HB5 := Lib.hid (below_drewN (Below.refl W1.heap.size W1) nq)
            generalize W1.drewN nq = W2 at *
            have k0 := below_keep HB5.out d0
            have k1 := below_keep HB5.out d1
            have k2 := below_keep HB5.out d2
            have k3 := below_keep HB5.out d3
            have n0 := below_keep HB5.out m0
            have n3 := below_keep HB5.out m3
            have n4 := below_keep HB5.out m4
            have HM5 := Lib.hid (HM1.out.below HB5.out)
            have HB6 := Lib.hid (HBA.out.trans (HB5.out.mono HBA.out.size))
            clear d0 d1 d2 d3 m0 m1 m2 m3 m4 HB5 HM1
            go_wp2_with fail
            rcases hhk : (x.hk == 0) with _ | _
            · have i1 : x.hk ≠ 0 := by simpa using hhk
              have hhigh := V.high_valid HBK.out i1
              have HQT0 : Hid (Q = decide (0 ≤ V.cutC n x.high (s, true))) := Lib.hid (by rw [HQ.out, decide_eq_false i1]; rfl)
              clear i1
              go_region_held3 (fun W' => MaxOk W' ∧ W'.cell? ⟨wr.heap.size, 0, none⟩ = some (.string ⟨x.lo.toArray⟩) ∧ W'.cell? ⟨wr.heap.size, 1, none⟩ = some (.int .i64 x.lk) ∧ W'.cell? ⟨wr.heap.size, 2, none⟩ = some (.string ⟨x.hi.toArray⟩) ∧ W'.cell? ⟨wr.heap.size, 3, none⟩ = some (.int .i64 x.hk) ∧
                W'.cell? ⟨w.heap.size, 0, none⟩ = some (.int .i64 n) ∧ W'.cell? ⟨w2.heap.size + 1, 0, none⟩ = some (.string ⟨s.toArray⟩) ∧ W'.cell? ⟨w2.heap.size + 1, 1, none⟩ = some (.bool true))
                (first
                  | (go_split_ands; exact ⟨MaxOk.below (by assumption) hbq, below_keep hbq (by assumption), below_keep hbq (by assumption), below_keep hbq (by assumption), below_keep hbq (by assumption), below_keep hbq (by assumption), below_keep hbq (by assumption), below_keep hbq (by assumption)⟩)
                  | (exact ⟨HM5.out, k0, k1, k2, k3, n0, n3, n4⟩)
                  | go_keep)
                (first
                  | (go_at_call 71; refine (rgHigh_any x _).mono ?_; rintro e wq ⟨rfl, hbq⟩)
                  | (go_at_call 69; refine (rgCompare_any n x.high (s, true) _ (by first | assumption | exact And.left (by assumption)) HOKS.out.sch hhigh HVA.out).mono ?_; rintro e wq ⟨rfl, hbq⟩))
              rename_i wa hba hS
              have hb7 := below3 hba hbq
              have HB7 := Lib.hid (HB6.out.trans (hb7.mono HB6.out.size))
              rw [← HQT0.out]
              clear hb7 hba hbq hS k0 k1 k2 k3 n0 n3 n4 HQT0
              generalize wq = W3 at *
              rcases hqv : Q with _ | _
              · have HQT := Lib.hid hqv
                clear hqv
                have HY := Lib.hid (HYES.out (by rw [HXF2.out, HPT.out, HQT.out]; rfl))
                go_wp2
                go_roundw
                case rel => exact ⟨k + 1, by omega, by go_num, HY.out, HB7.out⟩
                case measure => simp [intOf]; omega
              · have HQT := Lib.hid hqv
                clear hqv
                have HR : Hid (V.containsL n l s = true) := Lib.hid (by rw [HF2.out]; exact HNO.out (by rw [HXF2.out, HPT.out, HQT.out]; rfl))
                go_wp2
                go_ret
                exact ⟨ret_bool HR.out.symm, HB3.out.trans (HB7.out.mono HB3.out.size)⟩
            · have HQT : Hid (Q = true) := Lib.hid (by rw [HQ.out, decide_eq_true (eq_of_beq hhk)]; rfl)
              go_quiet (fail)
              have HB7 := Lib.hid (below_drewN HB6.out nq)
              generalize W2.drewN nq = W3 at *
              clear k0 k1 k2 k3 n0 n3 n4
              have HR : Hid (V.containsL n l s = true) := Lib.hid (by rw [HF2.out]; exact HNO.out (by rw [HXF2.out, HPT.out, HQT.out]; rfl))
              go_wp2
              go_ret
              exact ⟨ret_bool HR.out.symm, HB3.out.trans (HB7.out.mono HB3.out.size)⟩
        · obtain rfl : k = l.length := by omega
          have HR : Hid (V.containsL n l s = false) := Lib.hid (by have := HZ.out; rw [List.take_length] at this; rw [HF2.out, this])
          go_wp2
          go_ret
          exact ⟨ret_bool HR.out.symm, HBF.out⟩
end Go.Proofs.YtpjjkbdkgaehkaaGreatDoor
namespace Go.Proofs.YtpjjkbdkgaehkaaGreatDoor
open Go.RowKit

namespace V
/-- whether a set that begins with x is open behind i turns -/
def par (x : Bool) (i : Nat) : Bool := if i % 2 = 0 then x else !x
end V

/-! borders as rows -/
end Go.Proofs.YtpjjkbdkgaehkaaGreatDoor
namespace Go.Proofs.YtpjjkbdkgaehkaaGreatDoor
open Go.RowKit

/-- v is a slice of borders -/
def Bords (w : World) (v : Value) (B : List (V.Cut × Bool)) : Prop := ∃ a cap, v = .slice a B.length cap ∧ ∀ j (h : j < B.length), ∃ g off, a = some ⟨g, off, none⟩ ∧ g < w.heap.size ∧
  w.cell? ⟨g, off + j * 3, none⟩ = some (.string ⟨B[j].1.1.toArray⟩) ∧ w.cell? ⟨g, off + j * 3 + 1, none⟩ = some (.bool B[j].1.2) ∧ w.cell? ⟨g, off + j * 3 + 2, none⟩ = some (.bool B[j].2)
theorem Bords.below {w w' : World} {v : Value} {B : List (V.Cut × Bool)} (h : Bords w v B) (hb : Below w.heap.size w w') : Bords w' v B := by
  obtain ⟨a, cap, e, hc⟩ := h
  refine ⟨a, cap, e, fun j hj => ?_⟩
  obtain ⟨g, off, ea, hlt, h0, h1, h2⟩ := hc j hj
  exact ⟨g, off, ea, Nat.lt_of_lt_of_le hlt hb.size, below_keep hb h0, below_keep hb h1, below_keep hb h2⟩
theorem Bords.slice {w : World} {v : Value} {B : List (V.Cut × Bool)} (h : Bords w v B) : ∃ a cap, v = .slice a B.length cap := by
  obtain ⟨a, c, e, _⟩ := h
  exact ⟨a, c, e⟩
theorem Bords.at {w : World} {a : Option Addr} {n cap : Nat} {B : List (V.Cut × Bool)} (h : Bords w (.slice a n cap) B) (j : Nat) (hj : j < B.length) : ∃ g off, a = some ⟨g, off, none⟩ ∧ g < w.heap.size ∧
    w.cell? ⟨g, off + j * 3, none⟩ = some (.string ⟨B[j].1.1.toArray⟩) ∧ w.cell? ⟨g, off + j * 3 + 1, none⟩ = some (.bool B[j].1.2) ∧ w.cell? ⟨g, off + j * 3 + 2, none⟩ = some (.bool B[j].2) := by
  obtain ⟨a', c, e, hc⟩ := h
  obtain ⟨g, off, ea, hr⟩ := hc j hj
  cases e
  exact ⟨g, off, ea, hr⟩

/-! intervals as rows of one's own -/
def itvE (x : V.Itv) : List Value := [.string ⟨x.lo.toArray⟩, .int .i64 x.lk, .string ⟨x.hi.toArray⟩, .int .i64 x.hk]
theorem itvE_len (x : V.Itv) : (itvE x).length = 4 := rfl
theorem itvE_one (x : V.Itv) : ∀ u ∈ itvE x, u.oneCell' = true := by
  intro u hu
  simp [itvE] at hu
  rcases hu with rfl | rfl | rfl | rfl <;> rfl
theorem itvInfo : GInfo 80 4 48 := by
  have h : (match Tryz.prog.info? 80 with | some i => i.size == 4 && (i.bytes == 48 && (match i.zero with | some z => z.cells.size == 4 | none => false)) | none => false) = true := by kernel_rfl
  unfold GInfo
  cases hq : Tryz.prog.info? 80 with
  | none => rw [hq] at h; cases h
  | some i =>
    rw [hq] at h
    simp only [Bool.and_eq_true, beq_iff_eq] at h
    obtain ⟨h1, h2, h3⟩ := h
    cases hz : i.zero with
    | none => rw [hz] at h3; cases h3
    | some z =>
      rw [hz] at h3
      exact ⟨i, z, rfl, hz, h1, h2, by simpa using h3⟩
def ItRow (w : World) (N : Nat) (v : Value) (l : List V.Itv) : Prop := GRow 80 4 itvE w N v l
theorem ItRow.itvs {w : World} {N : Nat} {v : Value} {l : List V.Itv} (h : ItRow w N v l) : Itvs w v l := by
  obtain ⟨a, cap, rfl⟩ := GRow.slice h
  refine ⟨a, cap, rfl, fun j hj => ?_⟩
  obtain ⟨g, c, e, _, hlt, hc⟩ := GRow.at itvE_len h j hj
  cases e
  refine ⟨g, 0, rfl, hlt, ?_, ?_, ?_, ?_⟩
  · rw [Nat.zero_add]; have := hc 0 _ rfl; rwa [Nat.add_zero] at this
  · rw [Nat.zero_add]; exact hc 1 _ rfl
  · rw [Nat.zero_add]; exact hc 2 _ rfl
  · rw [Nat.zero_add]; exact hc 3 _ rfl
def itvC (x : V.Itv) : Array Value := #[.string ⟨x.lo.toArray⟩, .int .i64 x.lk, .string ⟨x.hi.toArray⟩, .int .i64 x.hk]

theorem three_heap (w : World) (a b c : Obj) : (((w.alloc a).alloc b).alloc c).heap[w.heap.size]? = some a ∧ (((w.alloc a).alloc b).alloc c).heap[w.heap.size + 1]? = some b ∧ (((w.alloc a).alloc b).alloc c).heap[w.heap.size + 1 + 1]? = some c ∧ (((w.alloc a).alloc b).alloc c).heap.size = w.heap.size + 1 + 1 + 1 := by
  refine ⟨?_, ?_, ?_, by simp⟩
  · rw [heap_alloc, if_neg (by simp; omega), heap_alloc, if_neg (by simp), heap_alloc, if_pos rfl]
  · rw [heap_alloc, if_neg (by simp), heap_alloc, if_pos (by simp)]
  · rw [heap_alloc, if_pos (by simp)]

theorem setC_all (n : Int) (a : Option Addr) (len cap : Nat) : (#[Value.int .i64 n, .slice a len cap] : Array Value).all (·.oneCell') = true := by simp [Value.oneCell']
theorem itvSize : (Tryz.prog.info? 80).map (·.size) = some 4 := by kernel_rfl
theorem itvsSize : (Tryz.prog.info? 37).map (·.size) = some 1 := by kernel_rfl
end Go.Proofs.YtpjjkbdkgaehkaaGreatDoor

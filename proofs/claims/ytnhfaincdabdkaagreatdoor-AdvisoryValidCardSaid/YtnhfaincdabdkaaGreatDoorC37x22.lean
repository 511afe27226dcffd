/-
  Lemmas for the law.
-/
import Derived.Test.YtnhfaincdabdkaaGreatDoorC37x21
set_option linter.all false
set_option maxRecDepth 100000
set_option maxHeartbeats 3200000
namespace Go.Proofs.YtnhfaincdabdkaaGreatDoor
open Go.RowKit
theorem zp8 {W0 wa wq : World} (hba : Below W0.drew.heap.size W0.drew wa) (hbq : Below wa.heap.size wa wq) : Below W0.heap.size W0 wq :=
 ((ztb W0.heap.size W0).drew).trans (Below.trans (show Below W0.heap.size W0.drew wa from hba) (hbq.mono hba.size))
def hasF (n : Int) (v : V.Bs) (x : V.Itv) : Bool := (decide (x.lk = 0) || decide (V.cutC n x.low (v, false) ≤ 0)) && (decide (x.hk = 0) || decide (0 ≤ V.cutC n x.high (v, true)))
theorem any_step {α : Type} {p : α -> Bool} {l : List α} {k : Nat} (h : (l.take k).any p = false) (hk : k < l.length) (hb : p l[k] = false) : (l.take (k + 1)).any p = false := by
 rw [List.take_succ_eq_append_getElem hk, List.any_append, h]
 simpa using hb
theorem any_yes {α : Type} {p : α -> Bool} {l : List α} {k : Nat} (hk : k < l.length) (hb : p l[k] = true) : l.any p = true :=
 List.any_eq_true.2 ⟨l[k], List.getElem_mem hk, hb⟩
theorem zt4 {P : Prop} (h : P := by
 have HY := zs8 (HYES.out (by rw [HXF2.out, HPT.out, HQT.out]; rfl))
 go_wp2
 go_roundw
 case rel => exact ⟨k + 1, by omega, by go_num, HY.out, HB7.out⟩
 case measure => simp [intOf]; omega) : P := h
theorem zt9 {P : Prop} (h : P := by
 have HR : Hid (V.jy n l s = true) := zs8 (by rw [HF2.out]; exact HNO.out (by rw [HXF2.out, HPT.out, HQT.out]; rfl))
 go_wp2
 go_ret
 exact ⟨zc HR.out.symm, HB3.out.trans (HB7.out.mono HB3.out.size)⟩) : P := h
theorem zhc (n : Int) (v : Value) (l : List V.Itv) (s : V.Bs) (w : World) (hm : zk w) (hv : Itvs w v l) (hs : Lens l) (hl : l.length ≤ maxLen) (hsl : s.length ≤ maxLen) :
  Calls Tryz.prog 37 #[setV n v, .string ⟨s.toArray⟩] w fun e w' => e = .returned (.bool (V.jy n l s)) /\ Below w.heap.size w w' := by
 have HV := zs8 hv
 obtain ⟨va, vc, rfl⟩ := hv.slice
 have HL := zs8 hl
 have HSL := zs8 (show (ByteArray.mk s.toArray).size ≤ maxLen by simpa [ByteArray.size] using hsl)
 unfold maxLen at hl
 have HS := zs8 hs
 have HF : Hid (V.jy n l s = (V.okR n l && (V.valid n s && l.any (hasF n s)))) := zs8 rfl
 have hb0 : Below w.heap.size w (w.alloc (.cells #[.int .i64 n, .slice va l.length vc] 48)) := (ztb _ w).alloc (zta _) _
 have HB0 := zs8 hb0
 have HM := zs8 (hm.below hb0)
 have c0 : (w.alloc (.cells #[.int .i64 n, .slice va l.length vc] 48)).cell? ⟨w.heap.size, 0, none⟩ = some (.int .i64 n) := by simp [zd]
 have c1 : (w.alloc (.cells #[.int .i64 n, .slice va l.length vc] 48)).cell? ⟨w.heap.size, 1, none⟩ = some (.slice va l.length vc) := by simp [zd]
 have hz0 : w.heap.size < (w.alloc (.cells #[.int .i64 n, .slice va l.length vc] 48)).heap.size := by simp
 clear hv hs hb0 hm hsl
 unfold setV
 go_enter Tryz.func37, Tryz.ntmps37
 go_wp2_with fail
 generalize w.alloc (.cells #[.int .i64 n, .slice va l.length vc] 48) = w0 at *
 refine (vl n (.slice va l.length vc) l w0 HM.out (HV.out.below HB0.out) HS.out HL.out).mono ?_
 rintro e w1 ⟨rfl, hb1⟩
 have HB1 := zs9 HB0 hb1
 have HM1 := zs8 (HM.out.below hb1)
 have d0 := za hb1 c0
 have d1 := za hb1 c1
 have hz1 : w.heap.size < w1.heap.size := Nat.lt_of_lt_of_le hz0 hb1.size
 clear hb1 c0 c1 hz0 HM
 rcases hok : V.okR n l with _ | _
 ·have HR : Hid (V.jy n l s = false) := zs8 (by rw [HF.out, hok]; rfl)
  clear hok
  go_wp2
  go_ret
  exact ⟨zc HR.out.symm, HB1.out⟩
 ·have HOK := zs8 hok
  clear hok
  go_wp2_with fail
  refine (yq n ⟨s.toArray⟩ w1 HM1.out HSL.out).mono ?_
  rintro e w2 ⟨rfl, hb2⟩
  rw [zbt]
  have HB2 := zs9 HB1 hb2
  have HM2 := zs8 (HM1.out.below hb2)
  have e0 := za hb2 d0
  have e1 := za hb2 d1
  have hz2 : w.heap.size < w2.heap.size := Nat.lt_of_lt_of_le hz1 hb2.size
  clear hb2 d0 d1 hz1 HM1
  rcases hva : V.valid n s with _ | _
  ·have HR : Hid (V.jy n l s = false) := zs8 (by rw [HF.out, HOK.out, hva]; rfl)
   clear hva
   go_wp2
   go_ret
   exact ⟨zc HR.out.symm, HB2.out⟩
  ·have HVA := zs8 hva
   have HF2 : Hid (V.jy n l s = l.any (hasF n s)) := zs8 (by rw [HF.out, HOK.out, hva]; rfl)
   clear hva
   have HOKS := zs8 (V.zbx HOK.out)
   obtain ⟨hbA, hcA, _, hzA⟩ := zc3 w2 #[.string ⟨s.toArray⟩, .bool false] #[.string ⟨s.toArray⟩, .bool true] 118 118
   have p0 : ((w2.alloc (.cells #[.string ⟨s.toArray⟩, .bool false] 118)).alloc (.cells #[.string ⟨s.toArray⟩, .bool true] 118)).cell? ⟨w2.heap.size, 0, none⟩ = some (.string ⟨s.toArray⟩) := by simp [zd]
   have p1 : ((w2.alloc (.cells #[.string ⟨s.toArray⟩, .bool false] 118)).alloc (.cells #[.string ⟨s.toArray⟩, .bool true] 118)).cell? ⟨w2.heap.size, 1, none⟩ = some (.bool false) := by simp [zd]
   have q0 : ((w2.alloc (.cells #[.string ⟨s.toArray⟩, .bool false] 118)).alloc (.cells #[.string ⟨s.toArray⟩, .bool true] 118)).cell? ⟨w2.heap.size + 1, 0, none⟩ = some (.string ⟨s.toArray⟩) := by rw [hcA 0]; rfl
   have q1 : ((w2.alloc (.cells #[.string ⟨s.toArray⟩, .bool false] 118)).alloc (.cells #[.string ⟨s.toArray⟩, .bool true] 118)).cell? ⟨w2.heap.size + 1, 1, none⟩ = some (.bool true) := by rw [hcA 1]; rfl
   have f0 := za hbA e0
   have f1 := za hbA e1
   have HB3 := zs9 HB2 hbA
   have HM3 := zs8 (HM2.out.below hbA)
   have HPQ := zs8 (And.intro f0 (And.intro p0 (And.intro p1 (And.intro q0 q1))))
   clear hcA p0 p1 q0 q1 f0 e0 hzA hbA HM2
   go_wp2
   clear f1 e1
   generalize (w2.alloc (.cells #[.string ⟨s.toArray⟩, .bool false] 118)).alloc (.cells #[.string ⟨s.toArray⟩, .bool true] 118) = W at *
   go_loopw [28] (fun iv wx => ∃ k : Nat, k ≤ l.length /\ iv = .int .i64 k /\ (l.take k).any (hasF n s) = false /\ Below W.heap.size W wx) (fun iv _ => l.length - (intOf iv).toNat)
   case atStart => exact ⟨0, Nat.zero_le _, rfl, rfl, ztb _ _⟩
   case round =>
    obtain ⟨k, hk, rfl, hz, hbx⟩ := hrel
    have HZ := zs8 hz
    have HBX := zs8 hbx
    have HBF := zs9 HB3 hbx
    clear hz hbx
    by_cases hlt : k < l.length
    ·obtain ⟨b, off, rfl, hb0, hx⟩ := HV.out.at k hlt
     obtain ⟨h0, h1, h2, h3⟩ := hx.below hb0 HBF.out
     have hi1 : (0 : Int) ≤ (k : Int) := by omega
     have hi2 : (k : Int) < (l.length : Int) := by omega
     have HBK : Hid (V.zl n l[k] = true) := zs8 (HOKS.out.bnd _ (List.getElem_mem hlt))
     have HYES := zs8 (fun hb => any_step (p := hasF n s) HZ.out hlt hb)
     have HNO := zs8 (fun hb => any_yes (p := hasF n s) hlt hb)
     clear hx
     generalize l[k] = x at *
     have HXF : Hid (hasF n s x = ((decide (x.lk = 0) || decide (V.cutC n x.low (s, false) ≤ 0)) && (decide (x.hk = 0) || decide (0 ≤ V.cutC n x.high (s, true))))) := zs8 rfl
     have hbA : Below wr.heap.size wr (wr.alloc (.cells #[.string ⟨x.lo.toArray⟩, .int .i64 x.lk, .string ⟨x.hi.toArray⟩, .int .i64 x.hk] 120)) := (ztb _ wr).alloc (zta _) _
     have HM1 := zs8 ((HM3.out.below HBX.out).below hbA)
     have HBA := zs9 HBX hbA
     have m0 := za HBA.out HPQ.out.1
     have m1 := za HBA.out HPQ.out.2.1
     have m2 := za HBA.out HPQ.out.2.2.1
     have m3 := za HBA.out HPQ.out.2.2.2.1
     have m4 := za HBA.out HPQ.out.2.2.2.2
     have hx4 : zbr (wr.alloc (.cells #[.string ⟨x.lo.toArray⟩, .int .i64 x.lk, .string ⟨x.hi.toArray⟩, .int .i64 x.hk] 120)) wr.heap.size 0 x := by
      refine ⟨?_, ?_, ?_, ?_⟩ <;> simp [zd]
     have HX4 := zs8 hx4
     clear hbA hx4
     go_wp2_with fail
     generalize wr.alloc (.cells #[.string ⟨x.lo.toArray⟩, .int .i64 x.lk, .string ⟨x.hi.toArray⟩, .int .i64 x.hk] 120) = W1 at *
     obtain ⟨d0, d1, d2, d3⟩ := HX4.out
     rw [Nat.zero_add] at d1 d2 d3
     clear h0 h1 h2 h3
     obtain ⟨P, hP⟩ : ∃ P, P = (decide (x.lk = 0) || decide (V.cutC n x.low (s, false) ≤ 0)) := ⟨_, rfl⟩
     obtain ⟨Q, hQ⟩ : ∃ Q, Q = (decide (x.hk = 0) || decide (0 ≤ V.cutC n x.high (s, true))) := ⟨_, rfl⟩
     have HP := zs8 hP
     have HQ := zs8 hQ
     have HXF2 : Hid (hasF n s x = (P && Q)) := zs8 (by rw [HXF.out, hP, hQ])
     clear hP hQ
     rcases hlk : (x.lk == 0) with _ | _
     ·have i1 : x.lk ≠ 0 := by simpa using hlk
      have hlow := V.xn HBK.out i1
      have HPT0 : Hid (P = decide (V.cutC n x.low (s, false) ≤ 0)) := zs8 (by rw [HP.out, decide_eq_false i1]; rfl)
      clear i1
      go_region_held3 (fun W' => zk W' /\ W'.cell? ⟨wr.heap.size, 0, none⟩ = some (.string ⟨x.lo.toArray⟩) /\ W'.cell? ⟨wr.heap.size, 1, none⟩ = some (.int .i64 x.lk) /\ W'.cell? ⟨wr.heap.size, 2, none⟩ = some (.string ⟨x.hi.toArray⟩) /\ W'.cell? ⟨wr.heap.size, 3, none⟩ = some (.int .i64 x.hk) /\
        W'.cell? ⟨w.heap.size, 0, none⟩ = some (.int .i64 n) /\ W'.cell? ⟨w2.heap.size, 0, none⟩ = some (.string ⟨s.toArray⟩) /\ W'.cell? ⟨w2.heap.size, 1, none⟩ = some (.bool false))
       (first
         | (go_split_ands; exact ⟨zk.below (by assumption) hbq, zte hbq, zte hbq, zte hbq, zte hbq, zte hbq, zte hbq, zte hbq⟩)
         | (exact ⟨HM1.out, d0, d1, d2, d3, m0, m1, m2⟩)
         | go_keep)
       (first
         | (go_at_call 86; refine (ww x _).mono ?_; rintro e wq ⟨rfl, hbq⟩)
         | (go_at_call 85; refine (kg n x.low (s, false) _ (by first | assumption | exact And.left (by assumption)) HOKS.out.sch hlow HVA.out).mono ?_; rintro e wq ⟨rfl, hbq⟩))
      rename_i wa hba hS
      have HB5 := zs8 (zp8 hba hbq)
      rw [← HPT0.out]
      clear hba hbq hS HPT0
      generalize wq = W2 at *
      have k0 := za HB5.out d0
      have k1 := za HB5.out d1
      have k2 := za HB5.out d2
      have k3 := za HB5.out d3
      have n0 := za HB5.out m0
      have n3 := za HB5.out m3
      have n4 := za HB5.out m4
      have HM5 := zs8 (HM1.out.below HB5.out)
      have HB6 := zs8 (HBA.out.trans (HB5.out.mono HBA.out.size))
      clear d0 d1 d2 d3 m0 m1 m2 m3 m4 HB5 HM1
      go_wp2_with fail
      rcases hhk : (x.hk == 0) with _ | _
      ·have i1 : x.hk ≠ 0 := by simpa using hhk
       have hhigh := V.jz HBK.out i1
       have HQT0 : Hid (Q = decide (0 ≤ V.cutC n x.high (s, true))) := zs8 (by rw [HQ.out, decide_eq_false i1]; rfl)
       clear i1
       go_region_held3 (fun W' => zk W' /\ W'.cell? ⟨wr.heap.size, 0, none⟩ = some (.string ⟨x.lo.toArray⟩) /\ W'.cell? ⟨wr.heap.size, 1, none⟩ = some (.int .i64 x.lk) /\ W'.cell? ⟨wr.heap.size, 2, none⟩ = some (.string ⟨x.hi.toArray⟩) /\ W'.cell? ⟨wr.heap.size, 3, none⟩ = some (.int .i64 x.hk) /\
         W'.cell? ⟨w.heap.size, 0, none⟩ = some (.int .i64 n) /\ W'.cell? ⟨w2.heap.size + 1, 0, none⟩ = some (.string ⟨s.toArray⟩) /\ W'.cell? ⟨w2.heap.size + 1, 1, none⟩ = some (.bool true))
        (first
          | (go_split_ands; exact ⟨zk.below (by assumption) hbq, zte hbq, zte hbq, zte hbq, zte hbq, zte hbq, zte hbq, zte hbq⟩)
          | (exact ⟨HM5.out, k0, k1, k2, k3, n0, n3, n4⟩)
          | go_keep)
        (first
          | (go_at_call 87; refine (yh x _).mono ?_; rintro e wq ⟨rfl, hbq⟩)
          | (go_at_call 85; refine (kg n x.high (s, true) _ (by first | assumption | exact And.left (by assumption)) HOKS.out.sch hhigh HVA.out).mono ?_; rintro e wq ⟨rfl, hbq⟩))
       rename_i wa hba hS
       have hb7 := zp8 hba hbq
       have HB7 := zs9 HB6 hb7
       rw [← HQT0.out]
       clear hb7 hba hbq hS k0 k1 k2 k3 n0 n3 n4 HQT0
       generalize wq = W3 at *
       rcases hpv : P with _ | _
       ·have HPT := zs8 hpv
        clear hpv
        rcases hqv : Q with _ | _
        ·have HQT := zs8 hqv
         clear hqv
         exact zt4
        ·have HQT := zs8 hqv
         clear hqv
         exact zt4
       ·have HPT := zs8 hpv
        clear hpv
        rcases hqv : Q with _ | _
        ·have HQT := zs8 hqv
         clear hqv
         exact zt4
        ·have HQT := zs8 hqv
         clear hqv
         exact zt9
      ·have HQT : Hid (Q = true) := zs8 (by rw [HQ.out, decide_eq_true (eq_of_beq hhk)]; rfl)
       go_quiet (fail)
       have HB7 := zs8 (below_drewN HB6.out nq)
       generalize W2.drewN nq = W3 at *
       clear k0 k1 k2 k3 n0 n3 n4
       rcases hpv : P with _ | _
       ·have HPT := zs8 hpv
        clear hpv
        exact zt4
       ·have HPT := zs8 hpv
        clear hpv
        exact zt9
     ·have HPT : Hid (P = true) := zs8 (by rw [HP.out, decide_eq_true (eq_of_beq hlk)]; rfl)
      go_quiet (fail)
      have HB5 := zs8 (below_drewN (ztb W1.heap.size W1) nq)
      generalize W1.drewN nq = W2 at *
      have k0 := za HB5.out d0
      have k1 := za HB5.out d1
      have k2 := za HB5.out d2
      have k3 := za HB5.out d3
      have n0 := za HB5.out m0
      have n3 := za HB5.out m3
      have n4 := za HB5.out m4
      have HM5 := zs8 (HM1.out.below HB5.out)
      have HB6 := zs8 (HBA.out.trans (HB5.out.mono HBA.out.size))
      clear d0 d1 d2 d3 m0 m1 m2 m3 m4 HB5 HM1
      go_wp2_with fail
      rcases hhk : (x.hk == 0) with _ | _
      ·have i1 : x.hk ≠ 0 := by simpa using hhk
       have hhigh := V.jz HBK.out i1
       have HQT0 : Hid (Q = decide (0 ≤ V.cutC n x.high (s, true))) := zs8 (by rw [HQ.out, decide_eq_false i1]; rfl)
       clear i1
       go_region_held3 (fun W' => zk W' /\ W'.cell? ⟨wr.heap.size, 0, none⟩ = some (.string ⟨x.lo.toArray⟩) /\ W'.cell? ⟨wr.heap.size, 1, none⟩ = some (.int .i64 x.lk) /\ W'.cell? ⟨wr.heap.size, 2, none⟩ = some (.string ⟨x.hi.toArray⟩) /\ W'.cell? ⟨wr.heap.size, 3, none⟩ = some (.int .i64 x.hk) /\
         W'.cell? ⟨w.heap.size, 0, none⟩ = some (.int .i64 n) /\ W'.cell? ⟨w2.heap.size + 1, 0, none⟩ = some (.string ⟨s.toArray⟩) /\ W'.cell? ⟨w2.heap.size + 1, 1, none⟩ = some (.bool true))
        (first
          | (go_split_ands; exact ⟨zk.below (by assumption) hbq, zte hbq, zte hbq, zte hbq, zte hbq, zte hbq, zte hbq, zte hbq⟩)
          | (exact ⟨HM5.out, k0, k1, k2, k3, n0, n3, n4⟩)
          | go_keep)
        (first
          | (go_at_call 87; refine (yh x _).mono ?_; rintro e wq ⟨rfl, hbq⟩)
          | (go_at_call 85; refine (kg n x.high (s, true) _ (by first | assumption | exact And.left (by assumption)) HOKS.out.sch hhigh HVA.out).mono ?_; rintro e wq ⟨rfl, hbq⟩))
       rename_i wa hba hS
       have hb7 := zp8 hba hbq
       have HB7 := zs9 HB6 hb7
       rw [← HQT0.out]
       clear hb7 hba hbq hS k0 k1 k2 k3 n0 n3 n4 HQT0
       generalize wq = W3 at *
       rcases hqv : Q with _ | _
       ·have HQT := zs8 hqv
        clear hqv
        exact zt4
       ·have HQT := zs8 hqv
        clear hqv
        exact zt9
      ·have HQT : Hid (Q = true) := zs8 (by rw [HQ.out, decide_eq_true (eq_of_beq hhk)]; rfl)
       go_quiet (fail)
       have HB7 := zs8 (below_drewN HB6.out nq)
       generalize W2.drewN nq = W3 at *
       clear k0 k1 k2 k3 n0 n3 n4
       exact zt9
    ·obtain rfl : k = l.length := by omega
     have HR : Hid (V.jy n l s = false) := zs8 (by have := HZ.out; rw [List.take_length] at this; rw [HF2.out, this])
     go_wp2
     go_ret
     exact ⟨zc HR.out.symm, HBF.out⟩
end Go.Proofs.YtnhfaincdabdkaaGreatDoor

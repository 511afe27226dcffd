/-
  Lemmas for the law.
-/
import Derived.Test.YtnhfaincdabdkaaGreatDoorC35x21
import Derived.Test.YtnhfaincdabdkaaGreatDoorC35x18
import Derived.Test.YtnhfaincdabdkaaGreatDoorC35x15
set_option linter.all false
set_option maxRecDepth 100000
set_option maxHeartbeats 3200000
namespace Go.Proofs.YtnhfaincdabdkaaGreatDoor
open Go.RowKit
theorem zsb {W0 wa wq : World} (hba : Below W0.drew.heap.size W0.drew wa) (hbq : Below wa.heap.size wa wq) : Below W0.heap.size W0 wq :=
 ((zve W0.heap.size W0).drew).trans (Below.trans (show Below W0.heap.size W0.drew wa from hba) (hbq.mono hba.size))
def hasF (n : Int) (v : V.Bs) (x : V.Itv) : Bool := (decide (x.lk = 0) || decide (V.cutC n x.low (v, false) ≤ 0)) && (decide (x.hk = 0) || decide (0 ≤ V.cutC n x.high (v, true)))
theorem zkd {α : Type} {p : α -> Bool} {l : List α} {k : Nat} (h : (l.take k).any p = false) (hk : k < l.length) (hb : p l[k] = false) : (l.take (k + 1)).any p = false := by
 rw [List.take_succ_eq_append_getElem hk, List.any_append, h]
 simpa using hb
theorem zn9 {α : Type} {p : α -> Bool} {l : List α} {k : Nat} (hk : k < l.length) (hb : p l[k] = true) : l.any p = true :=
 List.any_eq_true.2 ⟨l[k], List.getElem_mem hk, hb⟩
theorem zv5 {P : Prop} (h : P := by
 have HY := zvb (HYES.out (by rw [HXF2.out, HPT.out, HQT.out]; rfl))
 go_wp2
 go_roundw
 case rel => exact ⟨k + 1, by omega, by go_num, HY.out, HB7.out⟩
 case measure => simp [intOf]; omega) : P := h
theorem zwa {P : Prop} (h : P := by
 have HR : Hid (V.zu n l s = true) := zvb (by rw [HF2.out]; exact HNO.out (by rw [HXF2.out, HPT.out, HQT.out]; rfl))
 go_wp2
 go_ret
 exact ⟨ze HR.out.symm, HB3.out.trans (HB7.out.mono HB3.out.size)⟩) : P := h
theorem zyz {P : Prop} (h : P := by
 have HR : Hid (V.zu n l s = false) := zvb (by rw [HF.out, HOK.out, hva]; rfl)
 clear hva
 go_wp2
 go_ret
 exact ⟨ze HR.out.symm, HB2.out⟩) : P := h
theorem zdm (n : Int) (v : Value) (l : List V.Itv) (s : V.Bs) (w : World) (hm : zi w) (hv : Itvs w v l) (hs : Lens l) (hl : l.length ≤ maxLen) (hsl : s.length ≤ maxLen) :
  Calls Tryz.prog 37 #[setV n v, .string ⟨s.toArray⟩] w fun e w' => e = .returned (.bool (V.zu n l s)) /\ Below w.heap.size w w' := by
 have HV := zvb hv
 obtain ⟨va, vc, rfl⟩ := hv.slice
 have HL := zvb hl
 have HSL := zvb (show (ByteArray.mk s.toArray).size ≤ maxLen by simpa [ByteArray.size] using hsl)
 unfold maxLen at hl
 have HS := zvb hs
 have HF : Hid (V.zu n l s = (V.okR n l && (V.valid n s && l.any (hasF n s)))) := zvb rfl
 have hb0 : Below w.heap.size w (w.alloc (.cells #[.int .i64 n, .slice va l.length vc] 48)) := (zve _ w).alloc (zvd _) _
 have HB0 := zvb hb0
 have HM := zvb (hm.below hb0)
 have c0 : (w.alloc (.cells #[.int .i64 n, .slice va l.length vc] 48)).cell? ⟨w.heap.size, 0, none⟩ = some (.int .i64 n) := by simp [zf]
 have c1 : (w.alloc (.cells #[.int .i64 n, .slice va l.length vc] 48)).cell? ⟨w.heap.size, 1, none⟩ = some (.slice va l.length vc) := by simp [zf]
 have hz0 : w.heap.size < (w.alloc (.cells #[.int .i64 n, .slice va l.length vc] 48)).heap.size := by simp
 clear hv hs hb0 hm hsl
 unfold setV
 go_enter Tryz.func37, Tryz.ntmps37
 go_wp2_with fail
 generalize w.alloc (.cells #[.int .i64 n, .slice va l.length vc] 48) = w0 at *
 refine (zah n (.slice va l.length vc) l w0 HM.out (HV.out.below HB0.out) HS.out HL.out).mono ?_
 rintro e w1 ⟨rfl, hb1⟩
 have HB1 := zvc HB0 hb1
 have HM1 := zvb (HM.out.below hb1)
 have d0 := zc hb1 c0
 have d1 := zc hb1 c1
 have hz1 : w.heap.size < w1.heap.size := Nat.lt_of_lt_of_le hz0 hb1.size
 clear hb1 c0 c1 hz0 HM
 rcases hok : V.okR n l with _ | _
 ·have HR : Hid (V.zu n l s = false) := zvb (by rw [HF.out, hok]; rfl)
  clear hok
  go_wp2
  go_ret
  exact ⟨ze HR.out.symm, HB1.out⟩
 ·have HOK := zvb hok
  clear hok
  go_wp2_with fail
  refine (ul n ⟨s.toArray⟩ w1 HM1.out HSL.out).mono ?_
  rintro e w2 ⟨rfl, hb2⟩
  rw [jh]
  have HB2 := zvc HB1 hb2
  have HM2 := zvb (HM1.out.below hb2)
  have e0 := zc hb2 d0
  have e1 := zc hb2 d1
  have hz2 : w.heap.size < w2.heap.size := Nat.lt_of_lt_of_le hz1 hb2.size
  clear hb2 d0 d1 hz1 HM1
  rcases hva : V.valid n s with _ | _
  ·exact zyz
  ·have HVA := zvb hva
   have HF2 : Hid (V.zu n l s = l.any (hasF n s)) := zvb (by rw [HF.out, HOK.out, hva]; rfl)
   clear hva
   have HOKS := zvb (V.vv HOK.out)
   obtain ⟨hbA, hcA, _, hzA⟩ := zen w2 #[.string ⟨s.toArray⟩, .bool false] #[.string ⟨s.toArray⟩, .bool true] 118 118
   have p0 : ((w2.alloc (.cells #[.string ⟨s.toArray⟩, .bool false] 118)).alloc (.cells #[.string ⟨s.toArray⟩, .bool true] 118)).cell? ⟨w2.heap.size, 0, none⟩ = some (.string ⟨s.toArray⟩) := by simp [zf]
   have p1 : ((w2.alloc (.cells #[.string ⟨s.toArray⟩, .bool false] 118)).alloc (.cells #[.string ⟨s.toArray⟩, .bool true] 118)).cell? ⟨w2.heap.size, 1, none⟩ = some (.bool false) := by simp [zf]
   have q0 : ((w2.alloc (.cells #[.string ⟨s.toArray⟩, .bool false] 118)).alloc (.cells #[.string ⟨s.toArray⟩, .bool true] 118)).cell? ⟨w2.heap.size + 1, 0, none⟩ = some (.string ⟨s.toArray⟩) := by rw [hcA 0]; rfl
   have q1 : ((w2.alloc (.cells #[.string ⟨s.toArray⟩, .bool false] 118)).alloc (.cells #[.string ⟨s.toArray⟩, .bool true] 118)).cell? ⟨w2.heap.size + 1, 1, none⟩ = some (.bool true) := by rw [hcA 1]; rfl
   have f0 := zc hbA e0
   have f1 := zc hbA e1
   have HB3 := zvc HB2 hbA
   have HM3 := zvb (HM2.out.below hbA)
   have HPQ := zvb (And.intro f0 (And.intro p0 (And.intro p1 (And.intro q0 q1))))
   clear hcA p0 p1 q0 q1 f0 e0 hzA hbA HM2
   go_wp2
   clear f1 e1
   generalize (w2.alloc (.cells #[.string ⟨s.toArray⟩, .bool false] 118)).alloc (.cells #[.string ⟨s.toArray⟩, .bool true] 118) = W at *
   go_loopw [28] (fun iv wx => ∃ k : Nat, k ≤ l.length /\ iv = .int .i64 k /\ (l.take k).any (hasF n s) = false /\ Below W.heap.size W wx) (fun iv _ => l.length - (intOf iv).toNat)
   case atStart => exact ⟨0, Nat.zero_le _, rfl, rfl, zve _ _⟩
   case round =>
    obtain ⟨k, hk, rfl, hz, hbx⟩ := hrel
    have HZ := zvb hz
    have HBX := zvb hbx
    have HBF := zvc HB3 hbx
    clear hz hbx
    by_cases hlt : k < l.length
    ·obtain ⟨b, off, rfl, hb0, hx⟩ := HV.out.at k hlt
     obtain ⟨h0, h1, h2, h3⟩ := hx.below hb0 HBF.out
     have hi1 : (0 : Int) ≤ (k : Int) := by omega
     have hi2 : (k : Int) < (l.length : Int) := by omega
     have HBK : Hid (V.zl n l[k] = true) := zvb (HOKS.out.bnd _ (List.getElem_mem hlt))
     have HYES := zvb (fun hb => zkd (p := hasF n s) HZ.out hlt hb)
     have HNO := zvb (fun hb => zn9 (p := hasF n s) hlt hb)
     clear hx
     generalize l[k] = x at *
     have HXF : Hid (hasF n s x = ((decide (x.lk = 0) || decide (V.cutC n x.low (s, false) ≤ 0)) && (decide (x.hk = 0) || decide (0 ≤ V.cutC n x.high (s, true))))) := zvb rfl
     have hbA : Below wr.heap.size wr (wr.alloc (.cells #[.string ⟨x.lo.toArray⟩, .int .i64 x.lk, .string ⟨x.hi.toArray⟩, .int .i64 x.hk] 120)) := (zve _ wr).alloc (zvd _) _
     have HM1 := zvb ((HM3.out.below HBX.out).below hbA)
     have HBA := zvc HBX hbA
     have m0 := zc HBA.out HPQ.out.1
     have m1 := zc HBA.out HPQ.out.2.1
     have m2 := zc HBA.out HPQ.out.2.2.1
     have m3 := zc HBA.out HPQ.out.2.2.2.1
     have m4 := zc HBA.out HPQ.out.2.2.2.2
     have hx4 : zbn (wr.alloc (.cells #[.string ⟨x.lo.toArray⟩, .int .i64 x.lk, .string ⟨x.hi.toArray⟩, .int .i64 x.hk] 120)) wr.heap.size 0 x := by
      exact zzt
     have HX4 := zvb hx4
     clear hbA hx4
     go_wp2_with fail
     generalize wr.alloc (.cells #[.string ⟨x.lo.toArray⟩, .int .i64 x.lk, .string ⟨x.hi.toArray⟩, .int .i64 x.hk] 120) = W1 at *
     obtain ⟨d0, d1, d2, d3⟩ := HX4.out
     rw [Nat.zero_add] at d1 d2 d3
     clear h0 h1 h2 h3
     obtain ⟨P, hP⟩ : ∃ P, P = (decide (x.lk = 0) || decide (V.cutC n x.low (s, false) ≤ 0)) := ⟨_, rfl⟩
     obtain ⟨Q, hQ⟩ : ∃ Q, Q = (decide (x.hk = 0) || decide (0 ≤ V.cutC n x.high (s, true))) := ⟨_, rfl⟩
     have HP := zvb hP
     have HQ := zvb hQ
     have HXF2 : Hid (hasF n s x = (P && Q)) := zvb (by rw [HXF.out, hP, hQ])
     clear hP hQ
     rcases hlk : (x.lk == 0) with _ | _
     ·have i1 : x.lk ≠ 0 := by simpa using hlk
      have hlow := V.ki HBK.out i1
      have HPT0 : Hid (P = decide (V.cutC n x.low (s, false) ≤ 0)) := zvb (by rw [HP.out, decide_eq_false i1]; rfl)
      clear i1
      go_region_held3 (fun W' => zi W' /\ W'.cell? ⟨wr.heap.size, 0, none⟩ = some (.string ⟨x.lo.toArray⟩) /\ W'.cell? ⟨wr.heap.size, 1, none⟩ = some (.int .i64 x.lk) /\ W'.cell? ⟨wr.heap.size, 2, none⟩ = some (.string ⟨x.hi.toArray⟩) /\ W'.cell? ⟨wr.heap.size, 3, none⟩ = some (.int .i64 x.hk) /\
        W'.cell? ⟨w.heap.size, 0, none⟩ = some (.int .i64 n) /\ W'.cell? ⟨w2.heap.size, 0, none⟩ = some (.string ⟨s.toArray⟩) /\ W'.cell? ⟨w2.heap.size, 1, none⟩ = some (.bool false))
       (first
         | (go_split_ands; exact ⟨zi.below (by assumption) hbq, zvh hbq, zvh hbq, zvh hbq, zvh hbq, zvh hbq, zvh hbq, zvh hbq⟩)
         | (exact ⟨HM1.out, d0, d1, d2, d3, m0, m1, m2⟩)
         | go_keep)
       (first
         | (go_at_call 86; refine (za3 x _).mono ?_; rintro e wq ⟨rfl, hbq⟩)
         | (go_at_call 85; refine (kw n x.low (s, false) _ (by first | assumption | exact And.left (by assumption)) HOKS.out.sch hlow HVA.out).mono ?_; rintro e wq ⟨rfl, hbq⟩))
      rename_i wa hba hS
      have HB5 := zvb (zsb hba hbq)
      rw [← HPT0.out]
      clear hba hbq hS HPT0
      generalize wq = W2 at *
      have k0 := zc HB5.out d0
      have k1 := zc HB5.out d1
      have k2 := zc HB5.out d2
      have k3 := zc HB5.out d3
      have n0 := zc HB5.out m0
      have n3 := zc HB5.out m3
      have n4 := zc HB5.out m4
      have HM5 := zvb (HM1.out.below HB5.out)
      have HB6 := zvb (HBA.out.trans (HB5.out.mono HBA.out.size))
      clear d0 d1 d2 d3 m0 m1 m2 m3 m4 HB5 HM1
      go_wp2_with fail
      rcases hhk : (x.hk == 0) with _ | _
      ·have i1 : x.hk ≠ 0 := by simpa using hhk
       have hhigh := V.qn HBK.out i1
       have HQT0 : Hid (Q = decide (0 ≤ V.cutC n x.high (s, true))) := zvb (by rw [HQ.out, decide_eq_false i1]; rfl)
       clear i1
       go_region_held3 (fun W' => zi W' /\ W'.cell? ⟨wr.heap.size, 0, none⟩ = some (.string ⟨x.lo.toArray⟩) /\ W'.cell? ⟨wr.heap.size, 1, none⟩ = some (.int .i64 x.lk) /\ W'.cell? ⟨wr.heap.size, 2, none⟩ = some (.string ⟨x.hi.toArray⟩) /\ W'.cell? ⟨wr.heap.size, 3, none⟩ = some (.int .i64 x.hk) /\
         W'.cell? ⟨w.heap.size, 0, none⟩ = some (.int .i64 n) /\ W'.cell? ⟨w2.heap.size + 1, 0, none⟩ = some (.string ⟨s.toArray⟩) /\ W'.cell? ⟨w2.heap.size + 1, 1, none⟩ = some (.bool true))
        (first
          | (go_split_ands; exact ⟨zi.below (by assumption) hbq, zvh hbq, zvh hbq, zvh hbq, zvh hbq, zvh hbq, zvh hbq, zvh hbq⟩)
          | (exact ⟨HM5.out, k0, k1, k2, k3, n0, n3, n4⟩)
          | go_keep)
        (first
          | (go_at_call 87; refine (uf x _).mono ?_; rintro e wq ⟨rfl, hbq⟩)
          | (go_at_call 85; refine (kw n x.high (s, true) _ (by first | assumption | exact And.left (by assumption)) HOKS.out.sch hhigh HVA.out).mono ?_; rintro e wq ⟨rfl, hbq⟩))
       rename_i wa hba hS
       have hb7 := zsb hba hbq
       have HB7 := zvc HB6 hb7
       rw [← HQT0.out]
       clear hb7 hba hbq hS k0 k1 k2 k3 n0 n3 n4 HQT0
       generalize wq = W3 at *
       rcases hpv : P with _ | _
       ·have HPT := zvb hpv
        clear hpv
        rcases hqv : Q with _ | _
        ·have HQT := zvb hqv
         clear hqv
         exact zv5
        ·have HQT := zvb hqv
         clear hqv
         exact zv5
       ·have HPT := zvb hpv
        clear hpv
        rcases hqv : Q with _ | _
        ·have HQT := zvb hqv
         clear hqv
         exact zv5
        ·have HQT := zvb hqv
         clear hqv
         exact zwa
      ·have HQT : Hid (Q = true) := zvb (by rw [HQ.out, decide_eq_true (eq_of_beq hhk)]; rfl)
       go_quiet (fail)
       have HB7 := zvb (below_drewN HB6.out nq)
       generalize W2.drewN nq = W3 at *
       clear k0 k1 k2 k3 n0 n3 n4
       rcases hpv : P with _ | _
       ·have HPT := zvb hpv
        clear hpv
        exact zv5
       ·have HPT := zvb hpv
        clear hpv
        exact zwa
     ·have HPT : Hid (P = true) := zvb (by rw [HP.out, decide_eq_true (eq_of_beq hlk)]; rfl)
      go_quiet (fail)
      have HB5 := zvb (below_drewN (zve W1.heap.size W1) nq)
      generalize W1.drewN nq = W2 at *
      have k0 := zc HB5.out d0
      have k1 := zc HB5.out d1
      have k2 := zc HB5.out d2
      have k3 := zc HB5.out d3
      have n0 := zc HB5.out m0
      have n3 := zc HB5.out m3
      have n4 := zc HB5.out m4
      have HM5 := zvb (HM1.out.below HB5.out)
      have HB6 := zvb (HBA.out.trans (HB5.out.mono HBA.out.size))
      clear d0 d1 d2 d3 m0 m1 m2 m3 m4 HB5 HM1
      go_wp2_with fail
      rcases hhk : (x.hk == 0) with _ | _
      ·have i1 : x.hk ≠ 0 := by simpa using hhk
       have hhigh := V.qn HBK.out i1
       have HQT0 : Hid (Q = decide (0 ≤ V.cutC n x.high (s, true))) := zvb (by rw [HQ.out, decide_eq_false i1]; rfl)
       clear i1
       go_region_held3 (fun W' => zi W' /\ W'.cell? ⟨wr.heap.size, 0, none⟩ = some (.string ⟨x.lo.toArray⟩) /\ W'.cell? ⟨wr.heap.size, 1, none⟩ = some (.int .i64 x.lk) /\ W'.cell? ⟨wr.heap.size, 2, none⟩ = some (.string ⟨x.hi.toArray⟩) /\ W'.cell? ⟨wr.heap.size, 3, none⟩ = some (.int .i64 x.hk) /\
         W'.cell? ⟨w.heap.size, 0, none⟩ = some (.int .i64 n) /\ W'.cell? ⟨w2.heap.size + 1, 0, none⟩ = some (.string ⟨s.toArray⟩) /\ W'.cell? ⟨w2.heap.size + 1, 1, none⟩ = some (.bool true))
        (first
          | (go_split_ands; exact ⟨zi.below (by assumption) hbq, zvh hbq, zvh hbq, zvh hbq, zvh hbq, zvh hbq, zvh hbq, zvh hbq⟩)
          | (exact ⟨HM5.out, k0, k1, k2, k3, n0, n3, n4⟩)
          | go_keep)
        (first
          | (go_at_call 87; refine (uf x _).mono ?_; rintro e wq ⟨rfl, hbq⟩)
          | (go_at_call 85; refine (kw n x.high (s, true) _ (by first | assumption | exact And.left (by assumption)) HOKS.out.sch hhigh HVA.out).mono ?_; rintro e wq ⟨rfl, hbq⟩))
       rename_i wa hba hS
       have hb7 := zsb hba hbq
       have HB7 := zvc HB6 hb7
       rw [← HQT0.out]
       clear hb7 hba hbq hS k0 k1 k2 k3 n0 n3 n4 HQT0
       generalize wq = W3 at *
       rcases hqv : Q with _ | _
       ·have HQT := zvb hqv
        clear hqv
        exact zv5
       ·have HQT := zvb hqv
        clear hqv
        exact zwa
      ·have HQT : Hid (Q = true) := zvb (by rw [HQ.out, decide_eq_true (eq_of_beq hhk)]; rfl)
       go_quiet (fail)
       have HB7 := zvb (below_drewN HB6.out nq)
       generalize W2.drewN nq = W3 at *
       clear k0 k1 k2 k3 n0 n3 n4
       exact zwa
    ·obtain rfl : k = l.length := by omega
     have HR : Hid (V.zu n l s = false) := zvb (by have := HZ.out; rw [List.take_length] at this; rw [HF2.out, this])
     go_wp2
     go_ret
     exact ⟨ze HR.out.symm, HBF.out⟩
namespace V
def par (x : Bool) (i : Nat) : Bool := if i % 2 = 0 then x else !x
theorem zki (x : Bool) : par x 0 = x := rfl
theorem zx (x : Bool) (i : Nat) : par x (i + 1) = !par x i := by
 unfold par
 rcases Nat.mod_two_eq_zero_or_one i with h | h
 ·rw [if_pos h, if_neg (show ¬ (i + 1) % 2 = 0 by omega)]
 ·rw [if_neg (show ¬ i % 2 = 0 by omega), if_pos (show (i + 1) % 2 = 0 by omega), Bool.not_not]
theorem zs6 (x : Bool) (i : Nat) : par (!x) i = !par x i := by
 unfold par
 split
 ·rfl
 ·rfl
def alt : Bool -> List Cut -> List (Cut × Bool)
 | _, [] => []
 | x, c :: l => (c, !x) :: alt (!x) l
theorem xz : ∀ (x : Bool) (l : List Cut), (alt x l).length = l.length
 | _, [] => rfl
 | x, c :: l => by rw [alt, List.length_cons, List.length_cons, xz]
theorem zgu : ∀ (x : Bool) (l : List Cut) (j : Nat) (h : j < l.length), (alt x l)[j]? = some (l[j], par x (j + 1))
 | _, [], _, h => by simp at h
 | x, c :: l, 0, _ => by
  rw [zx, zki]
  rfl
 | x, c :: l, j + 1, h => by
  rw [zx, ← zs6]
  exact zgu (!x) l j (by simpa using h)
theorem zqt : ∀ (x : Bool) (l : List Cut) (c : Cut), alt x (l ++ [c]) = alt x l ++ [(c, !par x l.length)]
 | x, [], c => rfl
 | x, d :: l, c => by
  show (d, !x) :: alt (!x) (l ++ [c]) = (d, !x) :: (alt (!x) l ++ _)
  rw [zqt, List.length_cons, zx, zs6]
def yt (x : Itv) : List (Cut × Bool) := (if x.lk = 0 then [] else [(x.low, true)]) ++ (if x.hk = 0 then [] else [(x.high, false)])
theorem zkc : ∀ {n : Int} {l : List Itv}, Ord n l -> l.flatMap yt = alt (zq l) (zj l)
 | _, [], _ => rfl
 | n, x :: l, h => by
  have hl : zq l = false := by
   refine zeh h.2.2 (fun z hz => ?_)
   have := h.2.1 z hz
   unfold uz at this
   simp at this
   exact this.2.1
  have ih := zkc h.2.2
  rw [hl] at ih
  have hf : zq (x :: l) = decide (x.lk = 0) := by
   unfold zq at hl ⊢
   rw [List.any_cons, hl, Bool.or_false]
  have tail : (if x.hk = 0 then [] else [(x.high, false)]) ++ l.flatMap yt = alt true ((if x.hk = 0 then [] else [x.high]) ++ zj l) := by
   by_cases hk : x.hk = 0
   ·have : l = [] := by
     rcases l with _ | ⟨z, l⟩
     ·rfl
     ·have := h.2.1 z (by simp)
      unfold uz at this
      simp [hk] at this
    subst this
    rw [if_pos hk, if_pos hk]
    rfl
   ·rw [if_neg hk, if_neg hk, ih]
    rfl
  rw [List.flatMap_cons, hf, zj]
  unfold yt
  rw [List.append_assoc, show (l.flatMap fun x => (if x.lk = 0 then [] else [(x.low, true)]) ++ (if x.hk = 0 then [] else [(x.high, false)])) = l.flatMap yt from rfl, tail]
  by_cases hk : x.lk = 0
  ·rw [if_pos hk, if_pos hk, decide_eq_true hk]
   rfl
  ·rw [if_neg hk, if_neg hk, decide_eq_false hk]
   rfl
end V
def kg (b : V.Cut × Bool) : List Value := [.string ⟨b.1.1.toArray⟩, .bool b.1.2, .bool b.2]
theorem jn (b : V.Cut × Bool) : (kg b).length = 3 := rfl
theorem ju (b : V.Cut × Bool) : ∀ u ∈ kg b, u.oneCell' = true := by
 intro u hu
 simp [kg] at hu
 rcases hu with rfl | rfl | rfl <;> rfl
theorem zvu {P : Prop} (h : P := by
 rw [hq] at h
 simp only [Bool.and_eq_true, beq_iff_eq] at h
 obtain ⟨h1, h2, h3⟩ := h
 cases hz : i.zero with
 | none => rw [hz] at h3; cases h3
 | some z =>
  rw [hz] at h3
  exact ⟨i, z, rfl, hz, h1, h2, by simpa using h3⟩) : P := h
theorem kt : xq 244 3 32 := by
 have h : (match Tryz.prog.info? 244 with | some i => i.size == 3 && (i.bytes == 32 && (match i.zero with | some z => z.cells.size == 3 | none => false)) | none => false) = true := by kernel_rfl
 unfold xq
 cases hq : Tryz.prog.info? 244 with
 | none => rw [hq] at h; cases h
 | some i =>
  exact zvu
def BRow (w : World) (N : Nat) (v : Value) (l : List (V.Cut × Bool)) : Prop := GRow 244 3 kg w N v l
theorem zqe {l : List V.Itv} {k : Nat} (h : k < l.length) : (l.take (k + 1)).flatMap V.yt = (l.take k).flatMap V.yt ++ V.yt l[k] := by
 rw [List.take_succ_eq_append_getElem h, List.flatMap_append]
 simp
theorem zr2 (l : List V.Itv) (k : Nat) : ((l.take k).flatMap V.yt).length ≤ 2 * l.length := by
 have : ∀ m : List V.Itv, (m.flatMap V.yt).length ≤ 2 * m.length := fun m => by
  induction m with
  | nil => simp
  | cons x m ih =>
   rw [List.flatMap_cons, List.length_append, List.length_cons]
   unfold V.yt at ih ⊢
   rw [List.length_append]
   split <;> split <;> simp at * <;> omega
 have h := this (l.take k)
 rw [List.length_take] at h
 omega
theorem zn5 {l : List V.Itv} {k : Nat} (h : k < l.length) : V.zq (l.take (k + 1)) = (V.zq (l.take k) || decide (l[k].lk = 0)) := by
 unfold V.zq
 rw [List.take_succ_eq_append_getElem h, List.any_append]
 simp
theorem zwg {P : Prop} (h : P := by
 have HB7 : Hid (Below w.heap.size w W6) := zvb (HB6.out.trans (zn hg6 HBK5.out (zvd _) (by simp; omega)))
 have HR7 : Hid (BRow W6 w.heap.size v6 ((l.take (k + 1)).flatMap V.yt)) := zvb (by rw [HST1.out, if_neg (show ¬ x.hk = 0 by simpa using hhk)]; exact hr6)
 have hN7 : w.heap.size ≤ W6.heap.size := HB7.out.size
 clear hr6 hg6
 go_wp2
 go_roundw
 case rel => exact ⟨k + 1, by omega, by go_num, HFV.out, HR7.out, HB7.out, hN7⟩
 case measure => simp [intOf]; omega) : P := h
theorem zy6 {P : Prop} (h : P := by
 go_wp2
 go_roundw
 case rel => exact ⟨k + 1, by omega, by go_num, HFV.out, HR7.out, HB5.out, hN5⟩
 case measure => simp [intOf]; omega) : P := h
theorem ze1 (n : Int) (v : Value) (l : List V.Itv) (w : World) (hv : Itvs w v l) (hl : l.length ≤ 1000) :
  Calls Tryz.prog 229 #[setV n v] w fun e w' => ∃ u, e = .returned (.tuple #[u, .bool (V.zq l)]) /\ BRow w' w.heap.size u (l.flatMap V.yt) /\ Below w.heap.size w w' := by
 have HV := zvb hv
 obtain ⟨va, vc, rfl⟩ := hv.slice
 have hb0 : Below w.heap.size w (w.alloc (.cells #[.int .i64 n, .slice va l.length vc] 48)) := (zve _ w).alloc (zvd _) _
 have HB0 := zvb hb0
 have c1 : (w.alloc (.cells #[.int .i64 n, .slice va l.length vc] 48)).cell? ⟨w.heap.size, 1, none⟩ = some (.slice va l.length vc) := by simp [zf]
 have hz0 : w.heap.size < (w.alloc (.cells #[.int .i64 n, .slice va l.length vc] 48)).heap.size := by simp
 clear hv hb0
 unfold setV
 go_enter Tryz.func229, Tryz.ntmps229
 go_wp2
 generalize w.alloc (.cells #[.int .i64 n, .slice va l.length vc] 48) = w0 at *
 go_loopw [4, 5, 11] (fun ov fv iv wx => ∃ k : Nat, k ≤ l.length /\ iv = .int .i64 k /\ fv = .bool (V.zq (l.take k)) /\ BRow wx w.heap.size ov ((l.take k).flatMap V.yt) /\ Below w.heap.size w wx /\ w.heap.size ≤ wx.heap.size) (fun _ _ iv _ => l.length - (intOf iv).toNat)
 case atStart => exact ⟨0, Nat.zero_le _, rfl, rfl, GRow.nil _ _, HB0.out, by omega⟩
 case round =>
  obtain ⟨k, hk, rfl, rfl, hrow, hbx, hsz⟩ := hrel
  have HROW := zvb hrow
  have HBX := zvb hbx
  obtain ⟨oa, oc, rfl⟩ := hrow.slice
  have HLT := zvb (GRow.lt hrow)
  have HBK := zvb (GRow.block hrow)
  clear hrow hbx
  by_cases hlt : k < l.length
  ·obtain ⟨b, off, rfl, hb0, hx⟩ := HV.out.at k hlt
   obtain ⟨h0, h1, h2, h3⟩ := hx.below hb0 HBX.out
   have hi1 : (0 : Int) ≤ (k : Int) := by omega
   have hi2 : (k : Int) < (l.length : Int) := by omega
   have HST := zvb (zqe hlt)
   have HFT := zvb (zn5 hlt)
   have hlen := zr2 l k
   clear hx
   generalize l[k] = x at *
   obtain ⟨F, hF⟩ : ∃ F, F = V.zq (l.take k) := ⟨_, rfl⟩
   obtain ⟨B, hB⟩ : ∃ B, B = (l.take k).flatMap V.yt := ⟨_, rfl⟩
   rw [← hF] at HFT ⊢
   rw [← hB] at HST HROW hlen HLT HBK ⊢
   clear hF hB
   have HBI : Hid (V.yt x = (if x.lk = 0 then [] else [(x.low, true)]) ++ (if x.hk = 0 then [] else [(x.high, false)])) := zvb rfl
   have hbA : Below wr.heap.size wr (wr.alloc (.cells #[.string ⟨x.lo.toArray⟩, .int .i64 x.lk, .string ⟨x.hi.toArray⟩, .int .i64 x.hk] 120)) := (zve _ wr).alloc (zvd _) _
   have HBA := zvc HBX hbA
   have HRA := zvb (GRow.below HROW.out hbA)
   have hx4 : zbn (wr.alloc (.cells #[.string ⟨x.lo.toArray⟩, .int .i64 x.lk, .string ⟨x.hi.toArray⟩, .int .i64 x.hk] 120)) wr.heap.size 0 x := by
    exact zzt
   have HX4 := zvb hx4
   have hszA : wr.heap.size < (wr.alloc (.cells #[.string ⟨x.lo.toArray⟩, .int .i64 x.lk, .string ⟨x.hi.toArray⟩, .int .i64 x.hk] 120)).heap.size := by simp
   clear hbA hx4 HROW
   have hfst : wr.heap.size < (wr.alloc (.cells #[.string ⟨x.lo.toArray⟩, .int .i64 x.lk, .string ⟨x.hi.toArray⟩, .int .i64 x.hk] 120)).heap.size := hszA
   have hNA : w.heap.size ≤ (wr.alloc (.cells #[.string ⟨x.lo.toArray⟩, .int .i64 x.lk, .string ⟨x.hi.toArray⟩, .int .i64 x.hk] 120)).heap.size := by omega
   obtain ⟨d0, d1, d2, d3⟩ := HX4.out
   rw [Nat.zero_add] at d1 d2 d3
   clear HX4 hszA
   rcases hlk : (x.lk == 0) with _ | _
   ·rcases hhk : (x.hk != 0) with _ | _
    ·have HST1 : Hid ((l.take (k + 1)).flatMap V.yt = (B ++ [(x.low, true)]) ++ (if x.hk = 0 then [] else [(x.high, false)])) := zvb (by rw [HST.out, HBI.out, if_neg (show ¬ x.lk = 0 by simpa using hlk), List.append_assoc])
     have HFV : Hid (Value.bool F = Value.bool (V.zq (l.take (k + 1)))) := zvb (by rw [HFT.out, decide_eq_false (show ¬ x.lk = 0 by simpa using hlk), Bool.or_false])
     go_wp2_with fail
     generalize wr.alloc (.cells #[.string ⟨x.lo.toArray⟩, .int .i64 x.lk, .string ⟨x.hi.toArray⟩, .int .i64 x.hk] 120) = W1 at *
     refine (za3 x W1).mono ?_
     rintro e W2 ⟨rfl, hb2⟩
     have k0 := zc hb2 d0
     have k1 := zc hb2 d1
     have k2 := zc hb2 d2
     have k3 := zc hb2 d3
     have hbC : Below W2.heap.size W2 (W2.alloc (.cells #[.string ⟨x.low.1.toArray⟩, .bool x.low.2, .bool true] 244)) := (zve _ W2).alloc (zvd _) _
     have HR2 := zvb (GRow.below (GRow.below HRA.out hb2) hbC)
     have HB2 := zvc HBA hb2
     have HB3 := zvc HB2 hbC
     have hN2 : w.heap.size ≤ W2.heap.size := Nat.le_trans hNA hb2.size
     have e0 := zc hbC k0
     have e1 := zc hbC k1
     have e2 := zc hbC k2
     have e3 := zc hbC k3
     have HNW : Hid (∀ j u, (kg (x.low, true))[j]? = some u -> (W2.alloc (.cells #[.string ⟨x.low.1.toArray⟩, .bool x.low.2, .bool true] 244)).cell? ⟨W2.heap.size, j, none⟩ = some u) := zvb (fun j u hu => by rw [World.cell?_alloc_new]; simpa [kg] using hu)
     clear hb2 hbC d0 d1 d2 d3 k0 k1 k2 k3 HRA HBA
     unfold cutV
     go_wp2_with (first | (refine zr jn (by decide) ju kt (by decide) rfl _ _ 240 rfl Tryz.underlying240 w.heap.size (.slice oa B.length oc) B rfl HR2.out W2.heap.size (x.low, true) rfl HNW.out (by omega) (by simp; omega) ?_; intro v3 W3 hr3 hg3; have m0 := ye hg3 HLT.out e0; have m1 := ye hg3 HLT.out e1; have m2 := ye hg3 HLT.out e2; have m3 := ye hg3 HLT.out e3) | fail)
     have HB5 : Hid (Below w.heap.size w W3) := zvb (HB3.out.trans (zn hg3 HBK.out (zvd _) (by simp; omega)))
     have HR5 : Hid (BRow W3 w.heap.size v3 (B ++ [(x.low, true)])) := zvb hr3
     have hN5 : w.heap.size ≤ W3.heap.size := HB5.out.size
     have HBK5 : Hid (∀ b, v3.ownBlock = some b -> w.heap.size ≤ b) := zvb (GRow.block hr3)
     have hlen5 : (B ++ [(x.low, true)]).length ≤ 2 * l.length + 1 := by simp; omega
     generalize B ++ [(x.low, true)] = B5 at *
     clear hr3 hg3 e0 e1 e2 e3 HNW
     have HR7 : Hid (BRow W3 w.heap.size v3 ((l.take (k + 1)).flatMap V.yt)) := zvb (by rw [HST1.out, if_pos (show x.hk = 0 by simpa using hhk), List.append_nil]; exact HR5.out)
     exact zy6
    ·have HST1 : Hid ((l.take (k + 1)).flatMap V.yt = (B ++ [(x.low, true)]) ++ (if x.hk = 0 then [] else [(x.high, false)])) := zvb (by rw [HST.out, HBI.out, if_neg (show ¬ x.lk = 0 by simpa using hlk), List.append_assoc])
     have HFV : Hid (Value.bool F = Value.bool (V.zq (l.take (k + 1)))) := zvb (by rw [HFT.out, decide_eq_false (show ¬ x.lk = 0 by simpa using hlk), Bool.or_false])
     go_wp2_with fail
     generalize wr.alloc (.cells #[.string ⟨x.lo.toArray⟩, .int .i64 x.lk, .string ⟨x.hi.toArray⟩, .int .i64 x.hk] 120) = W1 at *
     refine (za3 x W1).mono ?_
     rintro e W2 ⟨rfl, hb2⟩
     have k0 := zc hb2 d0
     have k1 := zc hb2 d1
     have k2 := zc hb2 d2
     have k3 := zc hb2 d3
     have hbC : Below W2.heap.size W2 (W2.alloc (.cells #[.string ⟨x.low.1.toArray⟩, .bool x.low.2, .bool true] 244)) := (zve _ W2).alloc (zvd _) _
     have HR2 := zvb (GRow.below (GRow.below HRA.out hb2) hbC)
     have HB2 := zvc HBA hb2
     have HB3 := zvc HB2 hbC
     have hN2 : w.heap.size ≤ W2.heap.size := Nat.le_trans hNA hb2.size
     have e0 := zc hbC k0
     have e1 := zc hbC k1
     have e2 := zc hbC k2
     have e3 := zc hbC k3
     have HNW : Hid (∀ j u, (kg (x.low, true))[j]? = some u -> (W2.alloc (.cells #[.string ⟨x.low.1.toArray⟩, .bool x.low.2, .bool true] 244)).cell? ⟨W2.heap.size, j, none⟩ = some u) := zvb (fun j u hu => by rw [World.cell?_alloc_new]; simpa [kg] using hu)
     clear hb2 hbC d0 d1 d2 d3 k0 k1 k2 k3 HRA HBA
     unfold cutV
     go_wp2_with (first | (refine zr jn (by decide) ju kt (by decide) rfl _ _ 240 rfl Tryz.underlying240 w.heap.size (.slice oa B.length oc) B rfl HR2.out W2.heap.size (x.low, true) rfl HNW.out (by omega) (by simp; omega) ?_; intro v3 W3 hr3 hg3; have m0 := ye hg3 HLT.out e0; have m1 := ye hg3 HLT.out e1; have m2 := ye hg3 HLT.out e2; have m3 := ye hg3 HLT.out e3) | fail)
     have HB5 : Hid (Below w.heap.size w W3) := zvb (HB3.out.trans (zn hg3 HBK.out (zvd _) (by simp; omega)))
     have HR5 : Hid (BRow W3 w.heap.size v3 (B ++ [(x.low, true)])) := zvb hr3
     have hN5 : w.heap.size ≤ W3.heap.size := HB5.out.size
     have HBK5 : Hid (∀ b, v3.ownBlock = some b -> w.heap.size ≤ b) := zvb (GRow.block hr3)
     have hlen5 : (B ++ [(x.low, true)]).length ≤ 2 * l.length + 1 := by simp; omega
     generalize B ++ [(x.low, true)] = B5 at *
     clear hr3 hg3 e0 e1 e2 e3 HNW
     refine (uf x W3).mono ?_
     rintro e W4 ⟨rfl, hb4⟩
     have hbC : Below W4.heap.size W4 (W4.alloc (.cells #[.string ⟨x.high.1.toArray⟩, .bool x.high.2, .bool false] 244)) := (zve _ W4).alloc (zvd _) _
     have HR6 := zvb (GRow.below (GRow.below HR5.out hb4) hbC)
     have HB4 := zvc HB5 hb4
     have HB6 := zvc HB4 hbC
     have hN4 : w.heap.size ≤ W4.heap.size := HB4.out.size
     have HNW : Hid (∀ j u, (kg (x.high, false))[j]? = some u -> (W4.alloc (.cells #[.string ⟨x.high.1.toArray⟩, .bool x.high.2, .bool false] 244)).cell? ⟨W4.heap.size, j, none⟩ = some u) := zvb (fun j u hu => by rw [World.cell?_alloc_new]; simpa [kg] using hu)
     clear hb4 hbC
     unfold cutV
     go_wp2_with (first | (refine zr jn (by decide) ju kt (by decide) rfl _ _ 240 rfl Tryz.underlying240 w.heap.size v3 B5 rfl HR6.out W4.heap.size (x.high, false) rfl HNW.out (by omega) (by simp; omega) ?_; intro v6 W6 hr6 hg6) | fail)
     exact zwg
   ·rcases hhk : (x.hk != 0) with _ | _
    ·have HST1 : Hid ((l.take (k + 1)).flatMap V.yt = B ++ (if x.hk = 0 then [] else [(x.high, false)])) := zvb (by rw [HST.out, HBI.out, if_pos (eq_of_beq hlk), List.nil_append])
     have HFV : Hid (Value.bool true = Value.bool (V.zq (l.take (k + 1)))) := zvb (by rw [HFT.out, decide_eq_true (eq_of_beq hlk), Bool.or_true])
     go_wp2_with fail
     generalize wr.alloc (.cells #[.string ⟨x.lo.toArray⟩, .int .i64 x.lk, .string ⟨x.hi.toArray⟩, .int .i64 x.hk] 120) = W3 at *
     have HB5 := HBA
     have HR5 : Hid (BRow W3 w.heap.size (.slice oa B.length oc) B) := HRA
     have hN5 : w.heap.size ≤ W3.heap.size := HB5.out.size
     have HBK5 := HBK
     have hlen5 : B.length ≤ 2 * l.length + 1 := by omega
     have HR7 : Hid (BRow W3 w.heap.size (.slice oa B.length oc) ((l.take (k + 1)).flatMap V.yt)) := zvb (by rw [HST1.out, if_pos (show x.hk = 0 by simpa using hhk), List.append_nil]; exact HR5.out)
     exact zy6
    ·have HST1 : Hid ((l.take (k + 1)).flatMap V.yt = B ++ (if x.hk = 0 then [] else [(x.high, false)])) := zvb (by rw [HST.out, HBI.out, if_pos (eq_of_beq hlk), List.nil_append])
     have HFV : Hid (Value.bool true = Value.bool (V.zq (l.take (k + 1)))) := zvb (by rw [HFT.out, decide_eq_true (eq_of_beq hlk), Bool.or_true])
     go_wp2_with fail
     generalize wr.alloc (.cells #[.string ⟨x.lo.toArray⟩, .int .i64 x.lk, .string ⟨x.hi.toArray⟩, .int .i64 x.hk] 120) = W3 at *
     have HB5 := HBA
     have HR5 : Hid (BRow W3 w.heap.size (.slice oa B.length oc) B) := HRA
     have hN5 : w.heap.size ≤ W3.heap.size := HB5.out.size
     have HBK5 := HBK
     have hlen5 : B.length ≤ 2 * l.length + 1 := by omega
     refine (uf x W3).mono ?_
     rintro e W4 ⟨rfl, hb4⟩
     have hbC : Below W4.heap.size W4 (W4.alloc (.cells #[.string ⟨x.high.1.toArray⟩, .bool x.high.2, .bool false] 244)) := (zve _ W4).alloc (zvd _) _
     have HR6 := zvb (GRow.below (GRow.below HR5.out hb4) hbC)
     have HB4 := zvc HB5 hb4
     have HB6 := zvc HB4 hbC
     have hN4 : w.heap.size ≤ W4.heap.size := HB4.out.size
     have HNW : Hid (∀ j u, (kg (x.high, false))[j]? = some u -> (W4.alloc (.cells #[.string ⟨x.high.1.toArray⟩, .bool x.high.2, .bool false] 244)).cell? ⟨W4.heap.size, j, none⟩ = some u) := zvb (fun j u hu => by rw [World.cell?_alloc_new]; simpa [kg] using hu)
     clear hb4 hbC
     unfold cutV
     go_wp2_with (first | (refine zr jn (by decide) ju kt (by decide) rfl _ _ 240 rfl Tryz.underlying240 w.heap.size (.slice oa B.length oc) B rfl HR6.out W4.heap.size (x.high, false) rfl HNW.out (by omega) (by simp; omega) ?_; intro v6 W6 hr6 hg6) | fail)
     exact zwg
  ·obtain rfl : k = l.length := by omega
   have HT : Hid (l.take l.length = l) := zvb (List.take_length ..)
   rw [HT.out] at HROW ⊢
   go_wp2
   go_ret2
   exact ⟨_, rfl, HROW.out, HBX.out⟩
end Go.Proofs.YtnhfaincdabdkaaGreatDoor

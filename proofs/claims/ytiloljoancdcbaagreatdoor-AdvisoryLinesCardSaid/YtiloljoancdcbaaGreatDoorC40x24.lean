/-
  Lemmas for the law.
-/
import Derived.Test.YtiloljoancdcbaaGreatDoorC40x20
import Derived.Test.YtiloljoancdcbaaGreatDoorC40x22
import Derived.Test.YtiloljoancdcbaaGreatDoorC40x15
set_option linter.all false
set_option maxRecDepth 100000
set_option maxHeartbeats 3200000
namespace Go.Proofs.YtiloljoancdcbaaGreatDoor
open Go.RowKit
theorem zst {W0 wa wq : World} (hba : Below W0.drew.heap.size W0.drew wa) (hbq : Below wa.heap.size wa wq) : Below W0.heap.size W0 wq :=
 ((zvt W0.heap.size W0).drew).trans (Below.trans (show Below W0.heap.size W0.drew wa from hba) (hbq.mono hba.size))
def hasF (n : Int) (v : V.Bs) (x : V.Itv) : Bool := (decide (x.lk = 0) || decide (V.cutC n x.low (v, false) ≤ 0)) && (decide (x.hk = 0) || decide (0 ≤ V.cutC n x.high (v, true)))
theorem zq2 {α : Type} {p : α -> Bool} {l : List α} {k : Nat} (h : (l.take k).any p = false) (hk : k < l.length) (hb : p l[k] = false) : (l.take (k + 1)).any p = false := by
 rw [List.take_succ_eq_append_getElem hk, List.any_append, h]
 simpa using hb
theorem ztv {α : Type} {p : α -> Bool} {l : List α} {k : Nat} (hk : k < l.length) (hb : p l[k] = true) : l.any p = true :=
 List.any_eq_true.2 ⟨l[k], List.getElem_mem hk, hb⟩
theorem zxg {P : Prop} (h : P := by
 have HY := zvq (HYES.out (by rw [HXF2.out, HPT.out, HQT.out]; rfl))
 go_wp2
 go_roundw
 case rel => exact ⟨k + 1, by omega, by go_num, HY.out, HB7.out⟩
 case measure => simp [intOf]; omega) : P := h
theorem zxn {P : Prop} (h : P := by
 have HR : Hid (V.ko n l s = true) := zvq (by rw [HF2.out]; exact HNO.out (by rw [HXF2.out, HPT.out, HQT.out]; rfl))
 go_wp2
 go_ret
 exact ⟨zc HR.out.symm, HB3.out.trans (HB7.out.mono HB3.out.size)⟩) : P := h
theorem zka (n : Int) (v : Value) (l : List V.Itv) (s : V.Bs) (w : World) (hm : zg w) (hv : Itvs w v l) (hs : Lens l) (hl : l.length ≤ maxLen) (hsl : s.length ≤ maxLen) :
  Calls Tryz.prog 64 #[setV n v, .string ⟨s.toArray⟩] w fun e w' => e = .returned (.bool (V.ko n l s)) /\ Below w.heap.size w w' := by
 have HV := zvq hv
 obtain ⟨va, vc, rfl⟩ := hv.slice
 have HL := zvq hl
 have HSL := zvq (show (ByteArray.mk s.toArray).size ≤ maxLen by simpa [ByteArray.size] using hsl)
 unfold maxLen at hl
 have HS := zvq hs
 have HF : Hid (V.ko n l s = (V.okR n l && (V.valid n s && l.any (hasF n s)))) := zvq rfl
 have hb0 : Below w.heap.size w (w.alloc (.cells #[.int .i64 n, .slice va l.length vc] 32)) := (zvt _ w).alloc (zvs _) _
 have HB0 := zvq hb0
 have HM := zvq (hm.below hb0)
 have c0 : (w.alloc (.cells #[.int .i64 n, .slice va l.length vc] 32)).cell? ⟨w.heap.size, 0, none⟩ = some (.int .i64 n) := by simp [ze]
 have c1 : (w.alloc (.cells #[.int .i64 n, .slice va l.length vc] 32)).cell? ⟨w.heap.size, 1, none⟩ = some (.slice va l.length vc) := by simp [ze]
 have hz0 : w.heap.size < (w.alloc (.cells #[.int .i64 n, .slice va l.length vc] 32)).heap.size := by simp
 clear hv hs hb0 hm hsl
 unfold setV
 go_enter Tryz.func64, Tryz.ntmps64
 go_wp2_with fail
 generalize w.alloc (.cells #[.int .i64 n, .slice va l.length vc] 32) = w0 at *
 refine (zar n (.slice va l.length vc) l w0 HM.out (HV.out.below HB0.out) HS.out HL.out).mono ?_
 rintro e w1 ⟨rfl, hb1⟩
 have HB1 := zvr HB0 hb1
 have HM1 := zvq (HM.out.below hb1)
 have d0 := za hb1 c0
 have d1 := za hb1 c1
 have hz1 : w.heap.size < w1.heap.size := Nat.lt_of_lt_of_le hz0 hb1.size
 clear hb1 c0 c1 hz0 HM
 rcases hok : V.okR n l with _ | _
 ·have HR : Hid (V.ko n l s = false) := zvq (by rw [HF.out, hok]; rfl)
  clear hok
  go_wp2
  go_ret
  exact ⟨zc HR.out.symm, HB1.out⟩
 ·have HOK := zvq hok
  clear hok
  go_wp2_with fail
  refine (vd n ⟨s.toArray⟩ w1 HM1.out HSL.out).mono ?_
  rintro e w2 ⟨rfl, hb2⟩
  rw [wl]
  have HB2 := zvr HB1 hb2
  have HM2 := zvq (HM1.out.below hb2)
  have e0 := za hb2 d0
  have e1 := za hb2 d1
  have hz2 : w.heap.size < w2.heap.size := Nat.lt_of_lt_of_le hz1 hb2.size
  clear hb2 d0 d1 hz1 HM1
  rcases hva : V.valid n s with _ | _
  ·have HR : Hid (V.ko n l s = false) := zvq (by rw [HF.out, HOK.out, hva]; rfl)
   clear hva
   go_wp2
   go_ret
   exact ⟨zc HR.out.symm, HB2.out⟩
  ·have HVA := zvq hva
   have HF2 : Hid (V.ko n l s = l.any (hasF n s)) := zvq (by rw [HF.out, HOK.out, hva]; rfl)
   clear hva
   have HOKS := zvq (V.zca HOK.out)
   obtain ⟨hbA, hcA, _, hzA⟩ := zex w2 #[.string ⟨s.toArray⟩, .bool false] #[.string ⟨s.toArray⟩, .bool true] 133 133
   have p0 : ((w2.alloc (.cells #[.string ⟨s.toArray⟩, .bool false] 133)).alloc (.cells #[.string ⟨s.toArray⟩, .bool true] 133)).cell? ⟨w2.heap.size, 0, none⟩ = some (.string ⟨s.toArray⟩) := by simp [ze]
   have p1 : ((w2.alloc (.cells #[.string ⟨s.toArray⟩, .bool false] 133)).alloc (.cells #[.string ⟨s.toArray⟩, .bool true] 133)).cell? ⟨w2.heap.size, 1, none⟩ = some (.bool false) := by simp [ze]
   have q0 : ((w2.alloc (.cells #[.string ⟨s.toArray⟩, .bool false] 133)).alloc (.cells #[.string ⟨s.toArray⟩, .bool true] 133)).cell? ⟨w2.heap.size + 1, 0, none⟩ = some (.string ⟨s.toArray⟩) := by rw [hcA 0]; rfl
   have q1 : ((w2.alloc (.cells #[.string ⟨s.toArray⟩, .bool false] 133)).alloc (.cells #[.string ⟨s.toArray⟩, .bool true] 133)).cell? ⟨w2.heap.size + 1, 1, none⟩ = some (.bool true) := by rw [hcA 1]; rfl
   have f0 := za hbA e0
   have f1 := za hbA e1
   have HB3 := zvr HB2 hbA
   have HM3 := zvq (HM2.out.below hbA)
   have HPQ := zvq (And.intro f0 (And.intro p0 (And.intro p1 (And.intro q0 q1))))
   clear hcA p0 p1 q0 q1 f0 e0 hzA hbA HM2
   go_wp2
   clear f1 e1
   generalize (w2.alloc (.cells #[.string ⟨s.toArray⟩, .bool false] 133)).alloc (.cells #[.string ⟨s.toArray⟩, .bool true] 133) = W at *
   go_loopw [28] (fun iv wx => ∃ k : Nat, k ≤ l.length /\ iv = .int .i64 k /\ (l.take k).any (hasF n s) = false /\ Below W.heap.size W wx) (fun iv _ => l.length - (intOf iv).toNat)
   case atStart => exact ⟨0, Nat.zero_le _, rfl, rfl, zvt _ _⟩
   case round =>
    obtain ⟨k, hk, rfl, hz, hbx⟩ := hrel
    have HZ := zvq hz
    have HBX := zvq hbx
    have HBF := zvr HB3 hbx
    clear hz hbx
    by_cases hlt : k < l.length
    ·obtain ⟨b, off, rfl, hb0, hx⟩ := HV.out.at k hlt
     obtain ⟨h0, h1, h2, h3⟩ := hx.below hb0 HBF.out
     have hi1 : (0 : Int) ≤ (k : Int) := by omega
     have hi2 : (k : Int) < (l.length : Int) := by omega
     have HBK : Hid (V.zj n l[k] = true) := zvq (HOKS.out.bnd _ (List.getElem_mem hlt))
     have HYES := zvq (fun hb => zq2 (p := hasF n s) HZ.out hlt hb)
     have HNO := zvq (fun hb => ztv (p := hasF n s) hlt hb)
     clear hx
     generalize l[k] = x at *
     have HXF : Hid (hasF n s x = ((decide (x.lk = 0) || decide (V.cutC n x.low (s, false) ≤ 0)) && (decide (x.hk = 0) || decide (0 ≤ V.cutC n x.high (s, true))))) := zvq rfl
     have hbA : Below wr.heap.size wr (wr.alloc (.cells #[.string ⟨x.lo.toArray⟩, .int .i64 x.lk, .string ⟨x.hi.toArray⟩, .int .i64 x.hk] 87)) := (zvt _ wr).alloc (zvs _) _
     have HM1 := zvq ((HM3.out.below HBX.out).below hbA)
     have HBA := zvr HBX hbA
     have m0 := za HBA.out HPQ.out.1
     have m1 := za HBA.out HPQ.out.2.1
     have m2 := za HBA.out HPQ.out.2.2.1
     have m3 := za HBA.out HPQ.out.2.2.2.1
     have m4 := za HBA.out HPQ.out.2.2.2.2
     have hx4 : zb3 (wr.alloc (.cells #[.string ⟨x.lo.toArray⟩, .int .i64 x.lk, .string ⟨x.hi.toArray⟩, .int .i64 x.hk] 87)) wr.heap.size 0 x := by
      exact z1i
     have HX4 := zvq hx4
     clear hbA hx4
     go_wp2_with fail
     generalize wr.alloc (.cells #[.string ⟨x.lo.toArray⟩, .int .i64 x.lk, .string ⟨x.hi.toArray⟩, .int .i64 x.hk] 87) = W1 at *
     obtain ⟨d0, d1, d2, d3⟩ := HX4.out
     rw [Nat.zero_add] at d1 d2 d3
     clear h0 h1 h2 h3
     obtain ⟨P, hP⟩ : ∃ P, P = (decide (x.lk = 0) || decide (V.cutC n x.low (s, false) ≤ 0)) := ⟨_, rfl⟩
     obtain ⟨Q, hQ⟩ : ∃ Q, Q = (decide (x.hk = 0) || decide (0 ≤ V.cutC n x.high (s, true))) := ⟨_, rfl⟩
     have HP := zvq hP
     have HQ := zvq hQ
     have HXF2 : Hid (hasF n s x = (P && Q)) := zvq (by rw [HXF.out, hP, hQ])
     clear hP hQ
     rcases hlk : (x.lk == 0) with _ | _
     ·have i1 : x.lk ≠ 0 := by simpa using hlk
      have hlow := V.xw HBK.out i1
      have HPT0 : Hid (P = decide (V.cutC n x.low (s, false) ≤ 0)) := zvq (by rw [HP.out, decide_eq_false i1]; rfl)
      clear i1
      go_region_held3 (fun W' => zg W' /\ W'.cell? ⟨wr.heap.size, 0, none⟩ = some (.string ⟨x.lo.toArray⟩) /\ W'.cell? ⟨wr.heap.size, 1, none⟩ = some (.int .i64 x.lk) /\ W'.cell? ⟨wr.heap.size, 2, none⟩ = some (.string ⟨x.hi.toArray⟩) /\ W'.cell? ⟨wr.heap.size, 3, none⟩ = some (.int .i64 x.hk) /\
        W'.cell? ⟨w.heap.size, 0, none⟩ = some (.int .i64 n) /\ W'.cell? ⟨w2.heap.size, 0, none⟩ = some (.string ⟨s.toArray⟩) /\ W'.cell? ⟨w2.heap.size, 1, none⟩ = some (.bool false))
       (first
         | (go_split_ands; exact ⟨zg.below (by assumption) hbq, zvw hbq, zvw hbq, zvw hbq, zvw hbq, zvw hbq, zvw hbq, zvw hbq⟩)
         | (exact ⟨HM1.out, d0, d1, d2, d3, m0, m1, m2⟩)
         | go_keep)
       (first
         | (go_at_call 94; refine (zbg x _).mono ?_; rintro e wq ⟨rfl, hbq⟩)
         | (go_at_call 93; refine (xc n x.low (s, false) _ (by first | assumption | exact And.left (by assumption)) HOKS.out.sch hlow HVA.out).mono ?_; rintro e wq ⟨rfl, hbq⟩))
      rename_i wa hba hS
      have HB5 := zvq (zst hba hbq)
      rw [← HPT0.out]
      clear hba hbq hS HPT0
      generalize wq = W2 at *
      have k0 := za HB5.out d0
      have k1 := za HB5.out d1
      have k2 := za HB5.out d2
      have k3 := za HB5.out d3
      have n0 := za HB5.out m0
      have n3 := za HB5.out m3
      have n4 := za HB5.out m4
      have HM5 := zvq (HM1.out.below HB5.out)
      have HB6 := zvq (HBA.out.trans (HB5.out.mono HBA.out.size))
      clear d0 d1 d2 d3 m0 m1 m2 m3 m4 HB5 HM1
      go_wp2_with fail
      rcases hhk : (x.hk == 0) with _ | _
      ·have i1 : x.hk ≠ 0 := by simpa using hhk
       have hhigh := V.ju HBK.out i1
       have HQT0 : Hid (Q = decide (0 ≤ V.cutC n x.high (s, true))) := zvq (by rw [HQ.out, decide_eq_false i1]; rfl)
       clear i1
       go_region_held3 (fun W' => zg W' /\ W'.cell? ⟨wr.heap.size, 0, none⟩ = some (.string ⟨x.lo.toArray⟩) /\ W'.cell? ⟨wr.heap.size, 1, none⟩ = some (.int .i64 x.lk) /\ W'.cell? ⟨wr.heap.size, 2, none⟩ = some (.string ⟨x.hi.toArray⟩) /\ W'.cell? ⟨wr.heap.size, 3, none⟩ = some (.int .i64 x.hk) /\
         W'.cell? ⟨w.heap.size, 0, none⟩ = some (.int .i64 n) /\ W'.cell? ⟨w2.heap.size + 1, 0, none⟩ = some (.string ⟨s.toArray⟩) /\ W'.cell? ⟨w2.heap.size + 1, 1, none⟩ = some (.bool true))
        (first
          | (go_split_ands; exact ⟨zg.below (by assumption) hbq, zvw hbq, zvw hbq, zvw hbq, zvw hbq, zvw hbq, zvw hbq, zvw hbq⟩)
          | (exact ⟨HM5.out, k0, k1, k2, k3, n0, n3, n4⟩)
          | go_keep)
        (first
          | (go_at_call 95; refine (ut x _).mono ?_; rintro e wq ⟨rfl, hbq⟩)
          | (go_at_call 93; refine (xc n x.high (s, true) _ (by first | assumption | exact And.left (by assumption)) HOKS.out.sch hhigh HVA.out).mono ?_; rintro e wq ⟨rfl, hbq⟩))
       rename_i wa hba hS
       have hb7 := zst hba hbq
       have HB7 := zvr HB6 hb7
       rw [← HQT0.out]
       clear hb7 hba hbq hS k0 k1 k2 k3 n0 n3 n4 HQT0
       generalize wq = W3 at *
       rcases hpv : P with _ | _
       ·have HPT := zvq hpv
        clear hpv
        rcases hqv : Q with _ | _
        ·have HQT := zvq hqv
         clear hqv
         exact zxg
        ·have HQT := zvq hqv
         clear hqv
         exact zxg
       ·have HPT := zvq hpv
        clear hpv
        rcases hqv : Q with _ | _
        ·have HQT := zvq hqv
         clear hqv
         exact zxg
        ·have HQT := zvq hqv
         clear hqv
         exact zxn
      ·have HQT : Hid (Q = true) := zvq (by rw [HQ.out, decide_eq_true (eq_of_beq hhk)]; rfl)
       go_quiet (fail)
       have HB7 := zvq (below_drewN HB6.out nq)
       generalize W2.drewN nq = W3 at *
       clear k0 k1 k2 k3 n0 n3 n4
       rcases hpv : P with _ | _
       ·have HPT := zvq hpv
        clear hpv
        exact zxg
       ·have HPT := zvq hpv
        clear hpv
        exact zxn
     ·have HPT : Hid (P = true) := zvq (by rw [HP.out, decide_eq_true (eq_of_beq hlk)]; rfl)
      go_quiet (fail)
      have HB5 := zvq (below_drewN (zvt W1.heap.size W1) nq)
      generalize W1.drewN nq = W2 at *
      have k0 := za HB5.out d0
      have k1 := za HB5.out d1
      have k2 := za HB5.out d2
      have k3 := za HB5.out d3
      have n0 := za HB5.out m0
      have n3 := za HB5.out m3
      have n4 := za HB5.out m4
      have HM5 := zvq (HM1.out.below HB5.out)
      have HB6 := zvq (HBA.out.trans (HB5.out.mono HBA.out.size))
      clear d0 d1 d2 d3 m0 m1 m2 m3 m4 HB5 HM1
      go_wp2_with fail
      rcases hhk : (x.hk == 0) with _ | _
      ·have i1 : x.hk ≠ 0 := by simpa using hhk
       have hhigh := V.ju HBK.out i1
       have HQT0 : Hid (Q = decide (0 ≤ V.cutC n x.high (s, true))) := zvq (by rw [HQ.out, decide_eq_false i1]; rfl)
       clear i1
       go_region_held3 (fun W' => zg W' /\ W'.cell? ⟨wr.heap.size, 0, none⟩ = some (.string ⟨x.lo.toArray⟩) /\ W'.cell? ⟨wr.heap.size, 1, none⟩ = some (.int .i64 x.lk) /\ W'.cell? ⟨wr.heap.size, 2, none⟩ = some (.string ⟨x.hi.toArray⟩) /\ W'.cell? ⟨wr.heap.size, 3, none⟩ = some (.int .i64 x.hk) /\
         W'.cell? ⟨w.heap.size, 0, none⟩ = some (.int .i64 n) /\ W'.cell? ⟨w2.heap.size + 1, 0, none⟩ = some (.string ⟨s.toArray⟩) /\ W'.cell? ⟨w2.heap.size + 1, 1, none⟩ = some (.bool true))
        (first
          | (go_split_ands; exact ⟨zg.below (by assumption) hbq, zvw hbq, zvw hbq, zvw hbq, zvw hbq, zvw hbq, zvw hbq, zvw hbq⟩)
          | (exact ⟨HM5.out, k0, k1, k2, k3, n0, n3, n4⟩)
          | go_keep)
        (first
          | (go_at_call 95; refine (ut x _).mono ?_; rintro e wq ⟨rfl, hbq⟩)
          | (go_at_call 93; refine (xc n x.high (s, true) _ (by first | assumption | exact And.left (by assumption)) HOKS.out.sch hhigh HVA.out).mono ?_; rintro e wq ⟨rfl, hbq⟩))
       rename_i wa hba hS
       have hb7 := zst hba hbq
       have HB7 := zvr HB6 hb7
       rw [← HQT0.out]
       clear hb7 hba hbq hS k0 k1 k2 k3 n0 n3 n4 HQT0
       generalize wq = W3 at *
       rcases hqv : Q with _ | _
       ·have HQT := zvq hqv
        clear hqv
        exact zxg
       ·have HQT := zvq hqv
        clear hqv
        exact zxn
      ·have HQT : Hid (Q = true) := zvq (by rw [HQ.out, decide_eq_true (eq_of_beq hhk)]; rfl)
       go_quiet (fail)
       have HB7 := zvq (below_drewN HB6.out nq)
       generalize W2.drewN nq = W3 at *
       clear k0 k1 k2 k3 n0 n3 n4
       exact zxn
    ·obtain rfl : k = l.length := by omega
     have HR : Hid (V.ko n l s = false) := zvq (by have := HZ.out; rw [List.take_length] at this; rw [HF2.out, this])
     go_wp2
     go_ret
     exact ⟨zc HR.out.symm, HBF.out⟩
namespace V
def par (x : Bool) (i : Nat) : Bool := if i % 2 = 0 then x else !x
theorem zla (x : Bool) : par x 0 = x := rfl
theorem zx (x : Bool) (i : Nat) : par x (i + 1) = !par x i := by
 unfold par
 rcases Nat.mod_two_eq_zero_or_one i with h | h
 ·rw [if_pos h, if_neg (show ¬ (i + 1) % 2 = 0 by omega)]
 ·rw [if_neg (show ¬ i % 2 = 0 by omega), if_pos (show (i + 1) % 2 = 0 by omega), Bool.not_not]
theorem ztq (x : Bool) (i : Nat) : par (!x) i = !par x i := by
 unfold par
 split
 ·rfl
 ·rfl
def alt : Bool -> List Cut -> List (Cut × Bool)
 | _, [] => []
 | x, c :: l => (c, !x) :: alt (!x) l
theorem yg : ∀ (x : Bool) (l : List Cut), (alt x l).length = l.length
 | _, [] => rfl
 | x, c :: l => by rw [alt, List.length_cons, List.length_cons, yg]
theorem zha : ∀ (x : Bool) (l : List Cut) (j : Nat) (h : j < l.length), (alt x l)[j]? = some (l[j], par x (j + 1))
 | _, [], _, h => by simp at h
 | x, c :: l, 0, _ => by
  rw [zx, zla]
  rfl
 | x, c :: l, j + 1, h => by
  rw [zx, ← ztq]
  exact zha (!x) l j (by simpa using h)
theorem zrh : ∀ (x : Bool) (l : List Cut) (c : Cut), alt x (l ++ [c]) = alt x l ++ [(c, !par x l.length)]
 | x, [], c => rfl
 | x, d :: l, c => by
  show (d, !x) :: alt (!x) (l ++ [c]) = (d, !x) :: (alt (!x) l ++ _)
  rw [zrh, List.length_cons, zx, ztq]
def ud (x : Itv) : List (Cut × Bool) := (if x.lk = 0 then [] else [(x.low, true)]) ++ (if x.hk = 0 then [] else [(x.high, false)])
theorem zk8 : ∀ {n : Int} {l : List Itv}, Ord n l -> l.flatMap ud = alt (zq l) (zh l)
 | _, [], _ => rfl
 | n, x :: l, h => by
  have hl : zq l = false := by
   refine zep h.2.2 (fun z hz => ?_)
   have := h.2.1 z hz
   unfold vp at this
   simp at this
   exact this.2.1
  have ih := zk8 h.2.2
  rw [hl] at ih
  have hf : zq (x :: l) = decide (x.lk = 0) := by
   unfold zq at hl ⊢
   rw [List.any_cons, hl, Bool.or_false]
  have tail : (if x.hk = 0 then [] else [(x.high, false)]) ++ l.flatMap ud = alt true ((if x.hk = 0 then [] else [x.high]) ++ zh l) := by
   by_cases hk : x.hk = 0
   ·have : l = [] := by
     rcases l with _ | ⟨z, l⟩
     ·rfl
     ·have := h.2.1 z (by simp)
      unfold vp at this
      simp [hk] at this
    subst this
    rw [if_pos hk, if_pos hk]
    rfl
   ·rw [if_neg hk, if_neg hk, ih]
    rfl
  rw [List.flatMap_cons, hf, zh]
  unfold ud
  rw [List.append_assoc, show (l.flatMap fun x => (if x.lk = 0 then [] else [(x.low, true)]) ++ (if x.hk = 0 then [] else [(x.high, false)])) = l.flatMap ud from rfl, tail]
  by_cases hk : x.lk = 0
  ·rw [if_pos hk, if_pos hk, decide_eq_true hk]
   rfl
  ·rw [if_neg hk, if_neg hk, decide_eq_false hk]
   rfl
end V
def kl (b : V.Cut × Bool) : List Value := [.string ⟨b.1.1.toArray⟩, .bool b.1.2, .bool b.2]
theorem jw (b : V.Cut × Bool) : (kl b).length = 3 := rfl
theorem kc (b : V.Cut × Bool) : ∀ u ∈ kl b, u.oneCell' = true := by
 intro u hu
 simp [kl] at hu
 rcases hu with rfl | rfl | rfl <;> rfl
theorem ky : ye 201 3 32 := by
 have h : (match Tryz.prog.info? 201 with | some i => i.size == 3 && (i.bytes == 32 && (match i.zero with | some z => z.cells.size == 3 | none => false)) | none => false) = true := by kernel_rfl
 unfold ye
 cases hq : Tryz.prog.info? 201 with
 | none => rw [hq] at h; cases h
 | some i =>
  exact zwg
def BRow (w : World) (N : Nat) (v : Value) (l : List (V.Cut × Bool)) : Prop := GRow 201 3 kl w N v l
theorem zq4 {l : List V.Itv} {k : Nat} (h : k < l.length) : (l.take (k + 1)).flatMap V.ud = (l.take k).flatMap V.ud ++ V.ud l[k] := by
 rw [List.take_succ_eq_append_getElem h, List.flatMap_append]
 simp
theorem zsm (l : List V.Itv) (k : Nat) : ((l.take k).flatMap V.ud).length ≤ 2 * l.length := by
 have : ∀ m : List V.Itv, (m.flatMap V.ud).length ≤ 2 * m.length := fun m => by
  induction m with
  | nil => simp
  | cons x m ih =>
   rw [List.flatMap_cons, List.length_append, List.length_cons]
   unfold V.ud at ih ⊢
   rw [List.length_append]
   split <;> split <;> simp at * <;> omega
 have h := this (l.take k)
 rw [List.length_take] at h
 omega
theorem zo0 {l : List V.Itv} {k : Nat} (h : k < l.length) : V.zq (l.take (k + 1)) = (V.zq (l.take k) || decide (l[k].lk = 0)) := by
 unfold V.zq
 rw [List.take_succ_eq_append_getElem h, List.any_append]
 simp
theorem zxu {P : Prop} (h : P := by
 have HB7 : Hid (Below w.heap.size w W6) := zvq (HB6.out.trans (zp hg6 HBK5.out (zvs _) (by simp; omega)))
 have HR7 : Hid (BRow W6 w.heap.size v6 ((l.take (k + 1)).flatMap V.ud)) := zvq (by rw [HST1.out, if_neg (show ¬ x.hk = 0 by simpa using hhk)]; exact hr6)
 have hN7 : w.heap.size ≤ W6.heap.size := HB7.out.size
 clear hr6 hg6
 go_wp2
 go_roundw
 case rel => exact ⟨k + 1, by omega, by go_num, HFV.out, HR7.out, HB7.out, hN7⟩
 case measure => simp [intOf]; omega) : P := h
theorem z0n {P : Prop} (h : P := by
 go_wp2
 go_roundw
 case rel => exact ⟨k + 1, by omega, by go_num, HFV.out, HR7.out, HB5.out, hN5⟩
 case measure => simp [intOf]; omega) : P := h
theorem zfb (n : Int) (v : Value) (l : List V.Itv) (w : World) (hv : Itvs w v l) (hl : l.length ≤ 1000) :
  Calls Tryz.prog 174 #[setV n v] w fun e w' => ∃ u, e = .returned (.tuple #[u, .bool (V.zq l)]) /\ BRow w' w.heap.size u (l.flatMap V.ud) /\ Below w.heap.size w w' := by
 have HV := zvq hv
 obtain ⟨va, vc, rfl⟩ := hv.slice
 have hb0 : Below w.heap.size w (w.alloc (.cells #[.int .i64 n, .slice va l.length vc] 32)) := (zvt _ w).alloc (zvs _) _
 have HB0 := zvq hb0
 have c1 : (w.alloc (.cells #[.int .i64 n, .slice va l.length vc] 32)).cell? ⟨w.heap.size, 1, none⟩ = some (.slice va l.length vc) := by simp [ze]
 have hz0 : w.heap.size < (w.alloc (.cells #[.int .i64 n, .slice va l.length vc] 32)).heap.size := by simp
 clear hv hb0
 unfold setV
 go_enter Tryz.func174, Tryz.ntmps174
 go_wp2
 generalize w.alloc (.cells #[.int .i64 n, .slice va l.length vc] 32) = w0 at *
 go_loopw [4, 5, 11] (fun ov fv iv wx => ∃ k : Nat, k ≤ l.length /\ iv = .int .i64 k /\ fv = .bool (V.zq (l.take k)) /\ BRow wx w.heap.size ov ((l.take k).flatMap V.ud) /\ Below w.heap.size w wx /\ w.heap.size ≤ wx.heap.size) (fun _ _ iv _ => l.length - (intOf iv).toNat)
 case atStart => exact ⟨0, Nat.zero_le _, rfl, rfl, GRow.nil _ _, HB0.out, by omega⟩
 case round =>
  obtain ⟨k, hk, rfl, rfl, hrow, hbx, hsz⟩ := hrel
  have HROW := zvq hrow
  have HBX := zvq hbx
  obtain ⟨oa, oc, rfl⟩ := hrow.slice
  have HLT := zvq (GRow.lt hrow)
  have HBK := zvq (GRow.block hrow)
  clear hrow hbx
  by_cases hlt : k < l.length
  ·obtain ⟨b, off, rfl, hb0, hx⟩ := HV.out.at k hlt
   obtain ⟨h0, h1, h2, h3⟩ := hx.below hb0 HBX.out
   have hi1 : (0 : Int) ≤ (k : Int) := by omega
   have hi2 : (k : Int) < (l.length : Int) := by omega
   have HST := zvq (zq4 hlt)
   have HFT := zvq (zo0 hlt)
   have hlen := zsm l k
   clear hx
   generalize l[k] = x at *
   obtain ⟨F, hF⟩ : ∃ F, F = V.zq (l.take k) := ⟨_, rfl⟩
   obtain ⟨B, hB⟩ : ∃ B, B = (l.take k).flatMap V.ud := ⟨_, rfl⟩
   rw [← hF] at HFT ⊢
   rw [← hB] at HST HROW hlen HLT HBK ⊢
   clear hF hB
   have HBI : Hid (V.ud x = (if x.lk = 0 then [] else [(x.low, true)]) ++ (if x.hk = 0 then [] else [(x.high, false)])) := zvq rfl
   have hbA : Below wr.heap.size wr (wr.alloc (.cells #[.string ⟨x.lo.toArray⟩, .int .i64 x.lk, .string ⟨x.hi.toArray⟩, .int .i64 x.hk] 87)) := (zvt _ wr).alloc (zvs _) _
   have HBA := zvr HBX hbA
   have HRA := zvq (GRow.below HROW.out hbA)
   have hx4 : zb3 (wr.alloc (.cells #[.string ⟨x.lo.toArray⟩, .int .i64 x.lk, .string ⟨x.hi.toArray⟩, .int .i64 x.hk] 87)) wr.heap.size 0 x := by
    exact z1i
   have HX4 := zvq hx4
   have hszA : wr.heap.size < (wr.alloc (.cells #[.string ⟨x.lo.toArray⟩, .int .i64 x.lk, .string ⟨x.hi.toArray⟩, .int .i64 x.hk] 87)).heap.size := by simp
   clear hbA hx4 HROW
   have hfst : wr.heap.size < (wr.alloc (.cells #[.string ⟨x.lo.toArray⟩, .int .i64 x.lk, .string ⟨x.hi.toArray⟩, .int .i64 x.hk] 87)).heap.size := hszA
   have hNA : w.heap.size ≤ (wr.alloc (.cells #[.string ⟨x.lo.toArray⟩, .int .i64 x.lk, .string ⟨x.hi.toArray⟩, .int .i64 x.hk] 87)).heap.size := by omega
   obtain ⟨d0, d1, d2, d3⟩ := HX4.out
   rw [Nat.zero_add] at d1 d2 d3
   clear HX4 hszA
   rcases hlk : (x.lk == 0) with _ | _
   ·rcases hhk : (x.hk != 0) with _ | _
    ·have HST1 : Hid ((l.take (k + 1)).flatMap V.ud = (B ++ [(x.low, true)]) ++ (if x.hk = 0 then [] else [(x.high, false)])) := zvq (by rw [HST.out, HBI.out, if_neg (show ¬ x.lk = 0 by simpa using hlk), List.append_assoc])
     have HFV : Hid (Value.bool F = Value.bool (V.zq (l.take (k + 1)))) := zvq (by rw [HFT.out, decide_eq_false (show ¬ x.lk = 0 by simpa using hlk), Bool.or_false])
     go_wp2_with fail
     generalize wr.alloc (.cells #[.string ⟨x.lo.toArray⟩, .int .i64 x.lk, .string ⟨x.hi.toArray⟩, .int .i64 x.hk] 87) = W1 at *
     refine (zbg x W1).mono ?_
     rintro e W2 ⟨rfl, hb2⟩
     have k0 := za hb2 d0
     have k1 := za hb2 d1
     have k2 := za hb2 d2
     have k3 := za hb2 d3
     have hbC : Below W2.heap.size W2 (W2.alloc (.cells #[.string ⟨x.low.1.toArray⟩, .bool x.low.2, .bool true] 201)) := (zvt _ W2).alloc (zvs _) _
     have HR2 := zvq (GRow.below (GRow.below HRA.out hb2) hbC)
     have HB2 := zvr HBA hb2
     have HB3 := zvr HB2 hbC
     have hN2 : w.heap.size ≤ W2.heap.size := Nat.le_trans hNA hb2.size
     have e0 := za hbC k0
     have e1 := za hbC k1
     have e2 := za hbC k2
     have e3 := za hbC k3
     have HNW : Hid (∀ j u, (kl (x.low, true))[j]? = some u -> (W2.alloc (.cells #[.string ⟨x.low.1.toArray⟩, .bool x.low.2, .bool true] 201)).cell? ⟨W2.heap.size, j, none⟩ = some u) := zvq (fun j u hu => by rw [World.cell?_alloc_new]; simpa [kl] using hu)
     clear hb2 hbC d0 d1 d2 d3 k0 k1 k2 k3 HRA HBA
     unfold cutV
     go_wp2_with (first | (refine zm jw (by decide) kc ky (by decide) rfl _ _ 197 rfl Tryz.underlying197 w.heap.size (.slice oa B.length oc) B rfl HR2.out W2.heap.size (x.low, true) rfl HNW.out (by omega) (by simp; omega) ?_; intro v3 W3 hr3 hg3; have m0 := yo hg3 HLT.out e0; have m1 := yo hg3 HLT.out e1; have m2 := yo hg3 HLT.out e2; have m3 := yo hg3 HLT.out e3) | fail)
     have HB5 : Hid (Below w.heap.size w W3) := zvq (HB3.out.trans (zp hg3 HBK.out (zvs _) (by simp; omega)))
     have HR5 : Hid (BRow W3 w.heap.size v3 (B ++ [(x.low, true)])) := zvq hr3
     have hN5 : w.heap.size ≤ W3.heap.size := HB5.out.size
     have HBK5 : Hid (∀ b, v3.ownBlock = some b -> w.heap.size ≤ b) := zvq (GRow.block hr3)
     have hlen5 : (B ++ [(x.low, true)]).length ≤ 2 * l.length + 1 := by simp; omega
     generalize B ++ [(x.low, true)] = B5 at *
     clear hr3 hg3 e0 e1 e2 e3 HNW
     have HR7 : Hid (BRow W3 w.heap.size v3 ((l.take (k + 1)).flatMap V.ud)) := zvq (by rw [HST1.out, if_pos (show x.hk = 0 by simpa using hhk), List.append_nil]; exact HR5.out)
     exact z0n
    ·have HST1 : Hid ((l.take (k + 1)).flatMap V.ud = (B ++ [(x.low, true)]) ++ (if x.hk = 0 then [] else [(x.high, false)])) := zvq (by rw [HST.out, HBI.out, if_neg (show ¬ x.lk = 0 by simpa using hlk), List.append_assoc])
     have HFV : Hid (Value.bool F = Value.bool (V.zq (l.take (k + 1)))) := zvq (by rw [HFT.out, decide_eq_false (show ¬ x.lk = 0 by simpa using hlk), Bool.or_false])
     go_wp2_with fail
     generalize wr.alloc (.cells #[.string ⟨x.lo.toArray⟩, .int .i64 x.lk, .string ⟨x.hi.toArray⟩, .int .i64 x.hk] 87) = W1 at *
     refine (zbg x W1).mono ?_
     rintro e W2 ⟨rfl, hb2⟩
     have k0 := za hb2 d0
     have k1 := za hb2 d1
     have k2 := za hb2 d2
     have k3 := za hb2 d3
     have hbC : Below W2.heap.size W2 (W2.alloc (.cells #[.string ⟨x.low.1.toArray⟩, .bool x.low.2, .bool true] 201)) := (zvt _ W2).alloc (zvs _) _
     have HR2 := zvq (GRow.below (GRow.below HRA.out hb2) hbC)
     have HB2 := zvr HBA hb2
     have HB3 := zvr HB2 hbC
     have hN2 : w.heap.size ≤ W2.heap.size := Nat.le_trans hNA hb2.size
     have e0 := za hbC k0
     have e1 := za hbC k1
     have e2 := za hbC k2
     have e3 := za hbC k3
     have HNW : Hid (∀ j u, (kl (x.low, true))[j]? = some u -> (W2.alloc (.cells #[.string ⟨x.low.1.toArray⟩, .bool x.low.2, .bool true] 201)).cell? ⟨W2.heap.size, j, none⟩ = some u) := zvq (fun j u hu => by rw [World.cell?_alloc_new]; simpa [kl] using hu)
     clear hb2 hbC d0 d1 d2 d3 k0 k1 k2 k3 HRA HBA
     unfold cutV
     go_wp2_with (first | (refine zm jw (by decide) kc ky (by decide) rfl _ _ 197 rfl Tryz.underlying197 w.heap.size (.slice oa B.length oc) B rfl HR2.out W2.heap.size (x.low, true) rfl HNW.out (by omega) (by simp; omega) ?_; intro v3 W3 hr3 hg3; have m0 := yo hg3 HLT.out e0; have m1 := yo hg3 HLT.out e1; have m2 := yo hg3 HLT.out e2; have m3 := yo hg3 HLT.out e3) | fail)
     have HB5 : Hid (Below w.heap.size w W3) := zvq (HB3.out.trans (zp hg3 HBK.out (zvs _) (by simp; omega)))
     have HR5 : Hid (BRow W3 w.heap.size v3 (B ++ [(x.low, true)])) := zvq hr3
     have hN5 : w.heap.size ≤ W3.heap.size := HB5.out.size
     have HBK5 : Hid (∀ b, v3.ownBlock = some b -> w.heap.size ≤ b) := zvq (GRow.block hr3)
     have hlen5 : (B ++ [(x.low, true)]).length ≤ 2 * l.length + 1 := by simp; omega
     generalize B ++ [(x.low, true)] = B5 at *
     clear hr3 hg3 e0 e1 e2 e3 HNW
     refine (ut x W3).mono ?_
     rintro e W4 ⟨rfl, hb4⟩
     have hbC : Below W4.heap.size W4 (W4.alloc (.cells #[.string ⟨x.high.1.toArray⟩, .bool x.high.2, .bool false] 201)) := (zvt _ W4).alloc (zvs _) _
     have HR6 := zvq (GRow.below (GRow.below HR5.out hb4) hbC)
     have HB4 := zvr HB5 hb4
     have HB6 := zvr HB4 hbC
     have hN4 : w.heap.size ≤ W4.heap.size := HB4.out.size
     have HNW : Hid (∀ j u, (kl (x.high, false))[j]? = some u -> (W4.alloc (.cells #[.string ⟨x.high.1.toArray⟩, .bool x.high.2, .bool false] 201)).cell? ⟨W4.heap.size, j, none⟩ = some u) := zvq (fun j u hu => by rw [World.cell?_alloc_new]; simpa [kl] using hu)
     clear hb4 hbC
     unfold cutV
     go_wp2_with (first | (refine zm jw (by decide) kc ky (by decide) rfl _ _ 197 rfl Tryz.underlying197 w.heap.size v3 B5 rfl HR6.out W4.heap.size (x.high, false) rfl HNW.out (by omega) (by simp; omega) ?_; intro v6 W6 hr6 hg6) | fail)
     exact zxu
   ·rcases hhk : (x.hk != 0) with _ | _
    ·have HST1 : Hid ((l.take (k + 1)).flatMap V.ud = B ++ (if x.hk = 0 then [] else [(x.high, false)])) := zvq (by rw [HST.out, HBI.out, if_pos (eq_of_beq hlk), List.nil_append])
     have HFV : Hid (Value.bool true = Value.bool (V.zq (l.take (k + 1)))) := zvq (by rw [HFT.out, decide_eq_true (eq_of_beq hlk), Bool.or_true])
     go_wp2_with fail
     generalize wr.alloc (.cells #[.string ⟨x.lo.toArray⟩, .int .i64 x.lk, .string ⟨x.hi.toArray⟩, .int .i64 x.hk] 87) = W3 at *
     have HB5 := HBA
     have HR5 : Hid (BRow W3 w.heap.size (.slice oa B.length oc) B) := HRA
     have hN5 : w.heap.size ≤ W3.heap.size := HB5.out.size
     have HBK5 := HBK
     have hlen5 : B.length ≤ 2 * l.length + 1 := by omega
     have HR7 : Hid (BRow W3 w.heap.size (.slice oa B.length oc) ((l.take (k + 1)).flatMap V.ud)) := zvq (by rw [HST1.out, if_pos (show x.hk = 0 by simpa using hhk), List.append_nil]; exact HR5.out)
     exact z0n
    ·have HST1 : Hid ((l.take (k + 1)).flatMap V.ud = B ++ (if x.hk = 0 then [] else [(x.high, false)])) := zvq (by rw [HST.out, HBI.out, if_pos (eq_of_beq hlk), List.nil_append])
     have HFV : Hid (Value.bool true = Value.bool (V.zq (l.take (k + 1)))) := zvq (by rw [HFT.out, decide_eq_true (eq_of_beq hlk), Bool.or_true])
     go_wp2_with fail
     generalize wr.alloc (.cells #[.string ⟨x.lo.toArray⟩, .int .i64 x.lk, .string ⟨x.hi.toArray⟩, .int .i64 x.hk] 87) = W3 at *
     have HB5 := HBA
     have HR5 : Hid (BRow W3 w.heap.size (.slice oa B.length oc) B) := HRA
     have hN5 : w.heap.size ≤ W3.heap.size := HB5.out.size
     have HBK5 := HBK
     have hlen5 : B.length ≤ 2 * l.length + 1 := by omega
     refine (ut x W3).mono ?_
     rintro e W4 ⟨rfl, hb4⟩
     have hbC : Below W4.heap.size W4 (W4.alloc (.cells #[.string ⟨x.high.1.toArray⟩, .bool x.high.2, .bool false] 201)) := (zvt _ W4).alloc (zvs _) _
     have HR6 := zvq (GRow.below (GRow.below HR5.out hb4) hbC)
     have HB4 := zvr HB5 hb4
     have HB6 := zvr HB4 hbC
     have hN4 : w.heap.size ≤ W4.heap.size := HB4.out.size
     have HNW : Hid (∀ j u, (kl (x.high, false))[j]? = some u -> (W4.alloc (.cells #[.string ⟨x.high.1.toArray⟩, .bool x.high.2, .bool false] 201)).cell? ⟨W4.heap.size, j, none⟩ = some u) := zvq (fun j u hu => by rw [World.cell?_alloc_new]; simpa [kl] using hu)
     clear hb4 hbC
     unfold cutV
     go_wp2_with (first | (refine zm jw (by decide) kc ky (by decide) rfl _ _ 197 rfl Tryz.underlying197 w.heap.size (.slice oa B.length oc) B rfl HR6.out W4.heap.size (x.high, false) rfl HNW.out (by omega) (by simp; omega) ?_; intro v6 W6 hr6 hg6) | fail)
     exact zxu
  ·obtain rfl : k = l.length := by omega
   have HT : Hid (l.take l.length = l) := zvq (List.take_length ..)
   rw [HT.out] at HROW ⊢
   go_wp2
   go_ret2
   exact ⟨_, rfl, HROW.out, HBX.out⟩
end Go.Proofs.YtiloljoancdcbaaGreatDoor

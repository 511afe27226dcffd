import Derived.Test.YtcfbkcapbbhmpaaGreatDoorC39x11
import Derived.Test.YtcfbkcapbbhmpaaGreatDoorC39x13
import Derived.Test.YtcfbkcapbbhmpaaGreatDoorC39x09
set_option linter.all false
set_option maxRecDepth 100000
set_option maxHeartbeats 3200000
namespace Go.Proofs.YtcfbkcapbbhmpaaGreatDoor
open Go.RowKit
theorem ztl {W0 wa wq : World} (hba : Below W0.drew.heap.size W0.drew wa) (hbq : Below wa.heap.size wa wq) : Below W0.heap.size W0 wq :=
 ((zwh W0.heap.size W0).drew).trans (Below.trans (show Below W0.heap.size W0.drew wa from hba) (hbq.mono hba.size))
def hasF (n : Int) (v : V.Bs) (x : V.Itv) : Bool := (decide (x.lk = 0) || decide (V.cutC n x.low (v, false) ≤ 0)) && (decide (x.hk = 0) || decide (0 ≤ V.cutC n x.high (v, true)))
theorem zrt {α : Type} {p : α -> Bool} {l : List α} {k : Nat} (h : (l.take k).any p = false) (hk : k < l.length) (hb : p l[k] = false) : (l.take (k + 1)).any p = false := by
 rw [List.take_succ_eq_append_getElem hk, List.any_append, h]
 simpa using hb
theorem zuk {α : Type} {p : α -> Bool} {l : List α} {k : Nat} (hk : k < l.length) (hb : p l[k] = true) : l.any p = true :=
 List.any_eq_true.2 ⟨l[k], List.getElem_mem hk, hb⟩
theorem zxy {P : Prop} (h : P := by
 have HY := zwe (HYES.out (by rw [HXF2.out, HPT.out, HQT.out]; rfl))
 go_wp2
 go_roundw
 case rel => exact ⟨k + 1, by omega, by go_num, HY.out, HB7.out⟩
 case measure => simp [intOf]; omega) : P := h
theorem zx5 {P : Prop} (h : P := by
 have HR : Hid (V.kq n l s = true) := zwe (by rw [HF2.out]; exact HNO.out (by rw [HXF2.out, HPT.out, HQT.out]; rfl))
 go_wp2
 go_ret
 exact ⟨zc HR.out.symm, HB3.out.trans (HB7.out.mono HB3.out.size)⟩) : P := h
theorem zkt (n : Int) (v : Value) (l : List V.Itv) (s : V.Bs) (w : World) (hm : zg w) (hv : Itvs w v l) (hs : Lens l) (hl : l.length ≤ maxLen) (hsl : s.length ≤ maxLen) :
  Calls Tryz.prog 67 #[setV n v, .string ⟨s.toArray⟩] w fun e w' => e = .returned (.bool (V.kq n l s)) /\ Below w.heap.size w w' := by
 have HV := zwe hv
 obtain ⟨va, vc, rfl⟩ := hv.slice
 have HL := zwe hl
 have HSL := zwe (show (ByteArray.mk s.toArray).size ≤ maxLen by simpa [ByteArray.size] using hsl)
 unfold maxLen at hl
 have HS := zwe hs
 have HF : Hid (V.kq n l s = (V.okR n l && (V.valid n s && l.any (hasF n s)))) := zwe rfl
 have hb0 : Below w.heap.size w (w.alloc (.cells #[.int .i64 n, .slice va l.length vc] 45)) := (zwh _ w).alloc (zwg _) _
 have HB0 := zwe hb0
 have HM := zwe (hm.below hb0)
 have c0 : (w.alloc (.cells #[.int .i64 n, .slice va l.length vc] 45)).cell? ⟨w.heap.size, 0, none⟩ = some (.int .i64 n) := by simp [ze]
 have c1 : (w.alloc (.cells #[.int .i64 n, .slice va l.length vc] 45)).cell? ⟨w.heap.size, 1, none⟩ = some (.slice va l.length vc) := by simp [ze]
 have hz0 : w.heap.size < (w.alloc (.cells #[.int .i64 n, .slice va l.length vc] 45)).heap.size := by simp
 clear hv hs hb0 hm hsl
 unfold setV
 go_enter Tryz.func67, Tryz.ntmps67
 go_wp2_with fail
 generalize w.alloc (.cells #[.int .i64 n, .slice va l.length vc] 45) = w0 at *
 refine (zaz n (.slice va l.length vc) l w0 HM.out (HV.out.below HB0.out) HS.out HL.out).mono ?_
 rintro e w1 ⟨rfl, hb1⟩
 have HB1 := zwf HB0 hb1
 have HM1 := zwe (HM.out.below hb1)
 have d0 := za hb1 c0
 have d1 := za hb1 c1
 have hz1 : w.heap.size < w1.heap.size := Nat.lt_of_lt_of_le hz0 hb1.size
 clear hb1 c0 c1 hz0 HM
 rcases hok : V.okR n l with _ | _
 ·have HR : Hid (V.kq n l s = false) := zwe (by rw [HF.out, hok]; rfl)
  clear hok
  exact z1h
 ·have HOK := zwe hok
  clear hok
  go_wp2_with fail
  refine (vl n ⟨s.toArray⟩ w1 HM1.out HSL.out).mono ?_
  rintro e w2 ⟨rfl, hb2⟩
  rw [zaa]
  have HB2 := zwf HB1 hb2
  have HM2 := zwe (HM1.out.below hb2)
  have e0 := za hb2 d0
  have e1 := za hb2 d1
  have hz2 : w.heap.size < w2.heap.size := Nat.lt_of_lt_of_le hz1 hb2.size
  clear hb2 d0 d1 hz1 HM1
  rcases hva : V.valid n s with _ | _
  ·have HR : Hid (V.kq n l s = false) := zwe (by rw [HF.out, HOK.out, hva]; rfl)
   clear hva
   go_wp2
   go_ret
   exact ⟨zc HR.out.symm, HB2.out⟩
  ·have HVA := zwe hva
   have HF2 : Hid (V.kq n l s = l.any (hasF n s)) := zwe (by rw [HF.out, HOK.out, hva]; rfl)
   clear hva
   have HOKS := zwe (V.zab HOK.out)
   obtain ⟨hbA, hcA, _, hzA⟩ := ze8 w2 #[.string ⟨s.toArray⟩, .bool false] #[.string ⟨s.toArray⟩, .bool true] 135 135
   have p0 : ((w2.alloc (.cells #[.string ⟨s.toArray⟩, .bool false] 135)).alloc (.cells #[.string ⟨s.toArray⟩, .bool true] 135)).cell? ⟨w2.heap.size, 0, none⟩ = some (.string ⟨s.toArray⟩) := by simp [ze]
   have p1 : ((w2.alloc (.cells #[.string ⟨s.toArray⟩, .bool false] 135)).alloc (.cells #[.string ⟨s.toArray⟩, .bool true] 135)).cell? ⟨w2.heap.size, 1, none⟩ = some (.bool false) := by simp [ze]
   have q0 : ((w2.alloc (.cells #[.string ⟨s.toArray⟩, .bool false] 135)).alloc (.cells #[.string ⟨s.toArray⟩, .bool true] 135)).cell? ⟨w2.heap.size + 1, 0, none⟩ = some (.string ⟨s.toArray⟩) := by rw [hcA 0]; rfl
   have q1 : ((w2.alloc (.cells #[.string ⟨s.toArray⟩, .bool false] 135)).alloc (.cells #[.string ⟨s.toArray⟩, .bool true] 135)).cell? ⟨w2.heap.size + 1, 1, none⟩ = some (.bool true) := by rw [hcA 1]; rfl
   have f0 := za hbA e0
   have f1 := za hbA e1
   have HB3 := zwf HB2 hbA
   have HM3 := zwe (HM2.out.below hbA)
   have HPQ := zwe (And.intro f0 (And.intro p0 (And.intro p1 (And.intro q0 q1))))
   clear hcA p0 p1 q0 q1 f0 e0 hzA hbA HM2
   go_wp2
   clear f1 e1
   generalize (w2.alloc (.cells #[.string ⟨s.toArray⟩, .bool false] 135)).alloc (.cells #[.string ⟨s.toArray⟩, .bool true] 135) = W at *
   go_loopw [28] (fun iv wx => ∃ k : Nat, k ≤ l.length /\ iv = .int .i64 k /\ (l.take k).any (hasF n s) = false /\ Below W.heap.size W wx) (fun iv _ => l.length - (intOf iv).toNat)
   case atStart => exact ⟨0, Nat.zero_le _, rfl, rfl, zwh _ _⟩
   case round =>
    obtain ⟨k, hk, rfl, hz, hbx⟩ := hrel
    have HZ := zwe hz
    have HBX := zwe hbx
    have HBF := zwf HB3 hbx
    clear hz hbx
    by_cases hlt : k < l.length
    ·obtain ⟨b, off, rfl, hb0, hx⟩ := HV.out.at k hlt
     obtain ⟨h0, h1, h2, h3⟩ := hx.below hb0 HBF.out
     have hi1 : (0 : Int) ≤ (k : Int) := by omega
     have hi2 : (k : Int) < (l.length : Int) := by omega
     have HBK : Hid (V.zj n l[k] = true) := zwe (HOKS.out.bnd _ (List.getElem_mem hlt))
     have HYES := zwe (fun hb => zrt (p := hasF n s) HZ.out hlt hb)
     have HNO := zwe (fun hb => zuk (p := hasF n s) hlt hb)
     clear hx
     generalize l[k] = x at *
     have HXF : Hid (hasF n s x = ((decide (x.lk = 0) || decide (V.cutC n x.low (s, false) ≤ 0)) && (decide (x.hk = 0) || decide (0 ≤ V.cutC n x.high (s, true))))) := zwe rfl
     have hbA : Below wr.heap.size wr (wr.alloc (.cells #[.string ⟨x.lo.toArray⟩, .int .i64 x.lk, .string ⟨x.hi.toArray⟩, .int .i64 x.hk] 82)) := (zwh _ wr).alloc (zwg _) _
     have HM1 := zwe ((HM3.out.below HBX.out).below hbA)
     have HBA := zwf HBX hbA
     have m0 := za HBA.out HPQ.out.1
     have m1 := za HBA.out HPQ.out.2.1
     have m2 := za HBA.out HPQ.out.2.2.1
     have m3 := za HBA.out HPQ.out.2.2.2.1
     have m4 := za HBA.out HPQ.out.2.2.2.2
     have hx4 : zca (wr.alloc (.cells #[.string ⟨x.lo.toArray⟩, .int .i64 x.lk, .string ⟨x.hi.toArray⟩, .int .i64 x.hk] 82)) wr.heap.size 0 x := by
      exact z11
     have HX4 := zwe hx4
     clear hbA hx4
     go_wp2_with fail
     generalize wr.alloc (.cells #[.string ⟨x.lo.toArray⟩, .int .i64 x.lk, .string ⟨x.hi.toArray⟩, .int .i64 x.hk] 82) = W1 at *
     obtain ⟨d0, d1, d2, d3⟩ := HX4.out
     rw [Nat.zero_add] at d1 d2 d3
     clear h0 h1 h2 h3
     obtain ⟨P, hP⟩ : ∃ P, P = (decide (x.lk = 0) || decide (V.cutC n x.low (s, false) ≤ 0)) := ⟨_, rfl⟩
     obtain ⟨Q, hQ⟩ : ∃ Q, Q = (decide (x.hk = 0) || decide (0 ≤ V.cutC n x.high (s, true))) := ⟨_, rfl⟩
     have HP := zwe hP
     have HQ := zwe hQ
     have HXF2 : Hid (hasF n s x = (P && Q)) := zwe (by rw [HXF.out, hP, hQ])
     clear hP hQ
     rcases hlk : (x.lk == 0) with _ | _
     ·have i1 : x.lk ≠ 0 := by simpa using hlk
      have hlow := V.ye HBK.out i1
      have HPT0 : Hid (P = decide (V.cutC n x.low (s, false) ≤ 0)) := zwe (by rw [HP.out, decide_eq_false i1]; rfl)
      clear i1
      go_region_held3 (fun W' => zg W' /\ W'.cell? ⟨wr.heap.size, 0, none⟩ = some (.string ⟨x.lo.toArray⟩) /\ W'.cell? ⟨wr.heap.size, 1, none⟩ = some (.int .i64 x.lk) /\ W'.cell? ⟨wr.heap.size, 2, none⟩ = some (.string ⟨x.hi.toArray⟩) /\ W'.cell? ⟨wr.heap.size, 3, none⟩ = some (.int .i64 x.hk) /\
        W'.cell? ⟨w.heap.size, 0, none⟩ = some (.int .i64 n) /\ W'.cell? ⟨w2.heap.size, 0, none⟩ = some (.string ⟨s.toArray⟩) /\ W'.cell? ⟨w2.heap.size, 1, none⟩ = some (.bool false))
       (first
         | (go_split_ands; exact ⟨zg.below (by assumption) hbq, zwk hbq, zwk hbq, zwk hbq, zwk hbq, zwk hbq, zwk hbq, zwk hbq⟩)
         | (exact ⟨HM1.out, d0, d1, d2, d3, m0, m1, m2⟩)
         | go_keep)
       (first
         | (go_at_call 97; refine (zbp x _).mono ?_; rintro e wq ⟨rfl, hbq⟩)
         | (go_at_call 96; refine (xe n x.low (s, false) _ (by first | assumption | exact And.left (by assumption)) HOKS.out.sch hlow HVA.out).mono ?_; rintro e wq ⟨rfl, hbq⟩))
      rename_i wa hba hS
      have HB5 := zwe (ztl hba hbq)
      rw [← HPT0.out]
      clear hba hbq hS HPT0
      generalize wq = W2 at *
      have k0 := za HB5.out d0
      have k1 := za HB5.out d1
      have k2 := za HB5.out d2
      have k3 := za HB5.out d3
      have n0 := za HB5.out m0
      have n3 := za HB5.out m3
      have n4 := za HB5.out m4
      have HM5 := zwe (HM1.out.below HB5.out)
      have HB6 := zwe (HBA.out.trans (HB5.out.mono HBA.out.size))
      clear d0 d1 d2 d3 m0 m1 m2 m3 m4 HB5 HM1
      go_wp2_with fail
      rcases hhk : (x.hk == 0) with _ | _
      ·have i1 : x.hk ≠ 0 := by simpa using hhk
       have hhigh := V.jx HBK.out i1
       have HQT0 : Hid (Q = decide (0 ≤ V.cutC n x.high (s, true))) := zwe (by rw [HQ.out, decide_eq_false i1]; rfl)
       clear i1
       go_region_held3 (fun W' => zg W' /\ W'.cell? ⟨wr.heap.size, 0, none⟩ = some (.string ⟨x.lo.toArray⟩) /\ W'.cell? ⟨wr.heap.size, 1, none⟩ = some (.int .i64 x.lk) /\ W'.cell? ⟨wr.heap.size, 2, none⟩ = some (.string ⟨x.hi.toArray⟩) /\ W'.cell? ⟨wr.heap.size, 3, none⟩ = some (.int .i64 x.hk) /\
         W'.cell? ⟨w.heap.size, 0, none⟩ = some (.int .i64 n) /\ W'.cell? ⟨w2.heap.size + 1, 0, none⟩ = some (.string ⟨s.toArray⟩) /\ W'.cell? ⟨w2.heap.size + 1, 1, none⟩ = some (.bool true))
        (first
          | (go_split_ands; exact ⟨zg.below (by assumption) hbq, zwk hbq, zwk hbq, zwk hbq, zwk hbq, zwk hbq, zwk hbq, zwk hbq⟩)
          | (exact ⟨HM5.out, k0, k1, k2, k3, n0, n3, n4⟩)
          | go_keep)
        (first
          | (go_at_call 98; refine (vg x _).mono ?_; rintro e wq ⟨rfl, hbq⟩)
          | (go_at_call 96; refine (xe n x.high (s, true) _ (by first | assumption | exact And.left (by assumption)) HOKS.out.sch hhigh HVA.out).mono ?_; rintro e wq ⟨rfl, hbq⟩))
       rename_i wa hba hS
       have hb7 := ztl hba hbq
       have HB7 := zwf HB6 hb7
       rw [← HQT0.out]
       clear hb7 hba hbq hS k0 k1 k2 k3 n0 n3 n4 HQT0
       generalize wq = W3 at *
       rcases hpv : P with _ | _
       ·have HPT := zwe hpv
        clear hpv
        rcases hqv : Q with _ | _
        ·have HQT := zwe hqv
         clear hqv
         exact zxy
        ·have HQT := zwe hqv
         clear hqv
         exact zxy
       ·have HPT := zwe hpv
        clear hpv
        rcases hqv : Q with _ | _
        ·have HQT := zwe hqv
         clear hqv
         exact zxy
        ·have HQT := zwe hqv
         clear hqv
         exact zx5
      ·have HQT : Hid (Q = true) := zwe (by rw [HQ.out, decide_eq_true (eq_of_beq hhk)]; rfl)
       go_quiet (fail)
       have HB7 := zwe (below_drewN HB6.out nq)
       generalize W2.drewN nq = W3 at *
       clear k0 k1 k2 k3 n0 n3 n4
       rcases hpv : P with _ | _
       ·have HPT := zwe hpv
        clear hpv
        exact zxy
       ·have HPT := zwe hpv
        clear hpv
        exact zx5
     ·have HPT : Hid (P = true) := zwe (by rw [HP.out, decide_eq_true (eq_of_beq hlk)]; rfl)
      go_quiet (fail)
      have HB5 := zwe (below_drewN (zwh W1.heap.size W1) nq)
      generalize W1.drewN nq = W2 at *
      have k0 := za HB5.out d0
      have k1 := za HB5.out d1
      have k2 := za HB5.out d2
      have k3 := za HB5.out d3
      have n0 := za HB5.out m0
      have n3 := za HB5.out m3
      have n4 := za HB5.out m4
      have HM5 := zwe (HM1.out.below HB5.out)
      have HB6 := zwe (HBA.out.trans (HB5.out.mono HBA.out.size))
      clear d0 d1 d2 d3 m0 m1 m2 m3 m4 HB5 HM1
      go_wp2_with fail
      rcases hhk : (x.hk == 0) with _ | _
      ·have i1 : x.hk ≠ 0 := by simpa using hhk
       have hhigh := V.jx HBK.out i1
       have HQT0 : Hid (Q = decide (0 ≤ V.cutC n x.high (s, true))) := zwe (by rw [HQ.out, decide_eq_false i1]; rfl)
       clear i1
       go_region_held3 (fun W' => zg W' /\ W'.cell? ⟨wr.heap.size, 0, none⟩ = some (.string ⟨x.lo.toArray⟩) /\ W'.cell? ⟨wr.heap.size, 1, none⟩ = some (.int .i64 x.lk) /\ W'.cell? ⟨wr.heap.size, 2, none⟩ = some (.string ⟨x.hi.toArray⟩) /\ W'.cell? ⟨wr.heap.size, 3, none⟩ = some (.int .i64 x.hk) /\
         W'.cell? ⟨w.heap.size, 0, none⟩ = some (.int .i64 n) /\ W'.cell? ⟨w2.heap.size + 1, 0, none⟩ = some (.string ⟨s.toArray⟩) /\ W'.cell? ⟨w2.heap.size + 1, 1, none⟩ = some (.bool true))
        (first
          | (go_split_ands; exact ⟨zg.below (by assumption) hbq, zwk hbq, zwk hbq, zwk hbq, zwk hbq, zwk hbq, zwk hbq, zwk hbq⟩)
          | (exact ⟨HM5.out, k0, k1, k2, k3, n0, n3, n4⟩)
          | go_keep)
        (first
          | (go_at_call 98; refine (vg x _).mono ?_; rintro e wq ⟨rfl, hbq⟩)
          | (go_at_call 96; refine (xe n x.high (s, true) _ (by first | assumption | exact And.left (by assumption)) HOKS.out.sch hhigh HVA.out).mono ?_; rintro e wq ⟨rfl, hbq⟩))
       rename_i wa hba hS
       have hb7 := ztl hba hbq
       have HB7 := zwf HB6 hb7
       rw [← HQT0.out]
       clear hb7 hba hbq hS k0 k1 k2 k3 n0 n3 n4 HQT0
       generalize wq = W3 at *
       rcases hqv : Q with _ | _
       ·have HQT := zwe hqv
        clear hqv
        exact zxy
       ·have HQT := zwe hqv
        clear hqv
        exact zx5
      ·have HQT : Hid (Q = true) := zwe (by rw [HQ.out, decide_eq_true (eq_of_beq hhk)]; rfl)
       go_quiet (fail)
       have HB7 := zwe (below_drewN HB6.out nq)
       generalize W2.drewN nq = W3 at *
       clear k0 k1 k2 k3 n0 n3 n4
       exact zx5
    ·obtain rfl : k = l.length := by omega
     have HR : Hid (V.kq n l s = false) := zwe (by have := HZ.out; rw [List.take_length] at this; rw [HF2.out, this])
     go_wp2
     go_ret
     exact ⟨zc HR.out.symm, HBF.out⟩
namespace V
def par (x : Bool) (i : Nat) : Bool := if i % 2 = 0 then x else !x
theorem zlu (x : Bool) : par x 0 = x := rfl
theorem zy (x : Bool) (i : Nat) : par x (i + 1) = !par x i := by
 unfold par
 rcases Nat.mod_two_eq_zero_or_one i with h | h
 ·rw [if_pos h, if_neg (show ¬ (i + 1) % 2 = 0 by omega)]
 ·rw [if_neg (show ¬ i % 2 = 0 by omega), if_pos (show (i + 1) % 2 = 0 by omega), Bool.not_not]
theorem zuf (x : Bool) (i : Nat) : par (!x) i = !par x i := by
 unfold par
 split
 ·rfl
 ·rfl
def alt : Bool -> List Cut -> List (Cut × Bool)
 | _, [] => []
 | x, c :: l => (c, !x) :: alt (!x) l
theorem ym : ∀ (x : Bool) (l : List Cut), (alt x l).length = l.length
 | _, [] => rfl
 | x, c :: l => by rw [alt, List.length_cons, List.length_cons, ym]
theorem zhp : ∀ (x : Bool) (l : List Cut) (j : Nat) (h : j < l.length), (alt x l)[j]? = some (l[j], par x (j + 1))
 | _, [], _, h => by simp at h
 | x, c :: l, 0, _ => by
  rw [zy, zlu]
  rfl
 | x, c :: l, j + 1, h => by
  rw [zy, ← zuf]
  exact zhp (!x) l j (by simpa using h)
theorem zr8 : ∀ (x : Bool) (l : List Cut) (c : Cut), alt x (l ++ [c]) = alt x l ++ [(c, !par x l.length)]
 | x, [], c => rfl
 | x, d :: l, c => by
  show (d, !x) :: alt (!x) (l ++ [c]) = (d, !x) :: (alt (!x) l ++ _)
  rw [zr8, List.length_cons, zy, zuf]
def uj (x : Itv) : List (Cut × Bool) := (if x.lk = 0 then [] else [(x.low, true)]) ++ (if x.hk = 0 then [] else [(x.high, false)])
theorem zlq : ∀ {n : Int} {l : List Itv}, Ord n l -> l.flatMap uj = alt (zr l) (zh l)
 | _, [], _ => rfl
 | n, x :: l, h => by
  have hl : zr l = false := by
   refine ze2 h.2.2 (fun z hz => ?_)
   have := h.2.1 z hz
   unfold vy at this
   simp at this
   exact this.2.1
  have ih := zlq h.2.2
  rw [hl] at ih
  have hf : zr (x :: l) = decide (x.lk = 0) := by
   unfold zr at hl ⊢
   rw [List.any_cons, hl, Bool.or_false]
  have tail : (if x.hk = 0 then [] else [(x.high, false)]) ++ l.flatMap uj = alt true ((if x.hk = 0 then [] else [x.high]) ++ zh l) := by
   by_cases hk : x.hk = 0
   ·have : l = [] := by
     rcases l with _ | ⟨z, l⟩
     ·rfl
     ·have := h.2.1 z (by simp)
      unfold vy at this
      simp [hk] at this
    subst this
    rw [if_pos hk, if_pos hk]
    rfl
   ·rw [if_neg hk, if_neg hk, ih]
    rfl
  rw [List.flatMap_cons, hf, zh]
  unfold uj
  rw [List.append_assoc, show (l.flatMap fun x => (if x.lk = 0 then [] else [(x.low, true)]) ++ (if x.hk = 0 then [] else [(x.high, false)])) = l.flatMap uj from rfl, tail]
  by_cases hk : x.lk = 0
  ·rw [if_pos hk, if_pos hk, decide_eq_true hk]
   rfl
  ·rw [if_neg hk, if_neg hk, decide_eq_false hk]
   rfl
end V
def ko (b : V.Cut × Bool) : List Value := [.string ⟨b.1.1.toArray⟩, .bool b.1.2, .bool b.2]
theorem jy (b : V.Cut × Bool) : (ko b).length = 3 := rfl
theorem ke (b : V.Cut × Bool) : ∀ u ∈ ko b, u.oneCell' = true := by
 intro u hu
 simp [ko] at hu
 rcases hu with rfl | rfl | rfl <;> rfl
theorem xc : xq 198 3 32 := by
 have h : (match Tryz.prog.info? 198 with | some i => i.size == 3 && (i.bytes == 32 && (match i.zero with | some z => z.cells.size == 3 | none => false)) | none => false) = true := by kernel_rfl
 unfold xq
 cases hq : Tryz.prog.info? 198 with
 | none => rw [hq] at h; cases h
 | some i =>
  exact zw1
def BRow (w : World) (N : Nat) (v : Value) (l : List (V.Cut × Bool)) : Prop := GRow 198 3 ko w N v l
theorem zru {l : List V.Itv} {k : Nat} (h : k < l.length) : (l.take (k + 1)).flatMap V.uj = (l.take k).flatMap V.uj ++ V.uj l[k] := by
 rw [List.take_succ_eq_append_getElem h, List.flatMap_append]
 simp
theorem zte (l : List V.Itv) (k : Nat) : ((l.take k).flatMap V.uj).length ≤ 2 * l.length := by
 have : ∀ m : List V.Itv, (m.flatMap V.uj).length ≤ 2 * m.length := fun m => by
  induction m with
  | nil => simp
  | cons x m ih =>
   rw [List.flatMap_cons, List.length_append, List.length_cons]
   unfold V.uj at ih ⊢
   rw [List.length_append]
   split <;> split <;> simp at * <;> omega
 have h := this (l.take k)
 rw [List.length_take] at h
 omega
theorem zpo {l : List V.Itv} {k : Nat} (h : k < l.length) : V.zr (l.take (k + 1)) = (V.zr (l.take k) || decide (l[k].lk = 0)) := by
 unfold V.zr
 rw [List.take_succ_eq_append_getElem h, List.any_append]
 simp
theorem zyb {P : Prop} (h : P := by
 have HB7 : Hid (Below w.heap.size w W6) := zwe (HB6.out.trans (zk hg6 HBK5.out (zwg _) (by simp; omega)))
 have HR7 : Hid (BRow W6 w.heap.size v6 ((l.take (k + 1)).flatMap V.uj)) := zwe (by rw [HST1.out, if_neg (show ¬ x.hk = 0 by simpa using hhk)]; exact hr6)
 have hN7 : w.heap.size ≤ W6.heap.size := HB7.out.size
 clear hr6 hg6
 go_wp2
 go_roundw
 case rel => exact ⟨k + 1, by omega, by go_num, HFV.out, HR7.out, HB7.out, hN7⟩
 case measure => simp [intOf]; omega) : P := h
theorem z06 {P : Prop} (h : P := by
 go_wp2
 go_roundw
 case rel => exact ⟨k + 1, by omega, by go_num, HFV.out, HR7.out, HB5.out, hN5⟩
 case measure => simp [intOf]; omega) : P := h
theorem zfm (n : Int) (v : Value) (l : List V.Itv) (w : World) (hv : Itvs w v l) (hl : l.length ≤ 1000) :
  Calls Tryz.prog 167 #[setV n v] w fun e w' => ∃ u, e = .returned (.tuple #[u, .bool (V.zr l)]) /\ BRow w' w.heap.size u (l.flatMap V.uj) /\ Below w.heap.size w w' := by
 have HV := zwe hv
 obtain ⟨va, vc, rfl⟩ := hv.slice
 have hb0 : Below w.heap.size w (w.alloc (.cells #[.int .i64 n, .slice va l.length vc] 45)) := (zwh _ w).alloc (zwg _) _
 have HB0 := zwe hb0
 have c1 : (w.alloc (.cells #[.int .i64 n, .slice va l.length vc] 45)).cell? ⟨w.heap.size, 1, none⟩ = some (.slice va l.length vc) := by simp [ze]
 have hz0 : w.heap.size < (w.alloc (.cells #[.int .i64 n, .slice va l.length vc] 45)).heap.size := by simp
 clear hv hb0
 unfold setV
 go_enter Tryz.func167, Tryz.ntmps167
 go_wp2
 generalize w.alloc (.cells #[.int .i64 n, .slice va l.length vc] 45) = w0 at *
 go_loopw [4, 5, 11] (fun ov fv iv wx => ∃ k : Nat, k ≤ l.length /\ iv = .int .i64 k /\ fv = .bool (V.zr (l.take k)) /\ BRow wx w.heap.size ov ((l.take k).flatMap V.uj) /\ Below w.heap.size w wx /\ w.heap.size ≤ wx.heap.size) (fun _ _ iv _ => l.length - (intOf iv).toNat)
 case atStart => exact ⟨0, Nat.zero_le _, rfl, rfl, GRow.nil _ _, HB0.out, by omega⟩
 case round =>
  obtain ⟨k, hk, rfl, rfl, hrow, hbx, hsz⟩ := hrel
  have HROW := zwe hrow
  have HBX := zwe hbx
  obtain ⟨oa, oc, rfl⟩ := hrow.slice
  have HLT := zwe (GRow.lt hrow)
  have HBK := zwe (GRow.block hrow)
  clear hrow hbx
  by_cases hlt : k < l.length
  ·obtain ⟨b, off, rfl, hb0, hx⟩ := HV.out.at k hlt
   obtain ⟨h0, h1, h2, h3⟩ := hx.below hb0 HBX.out
   have hi1 : (0 : Int) ≤ (k : Int) := by omega
   have hi2 : (k : Int) < (l.length : Int) := by omega
   have HST := zwe (zru hlt)
   have HFT := zwe (zpo hlt)
   have hlen := zte l k
   clear hx
   generalize l[k] = x at *
   obtain ⟨F, hF⟩ : ∃ F, F = V.zr (l.take k) := ⟨_, rfl⟩
   obtain ⟨B, hB⟩ : ∃ B, B = (l.take k).flatMap V.uj := ⟨_, rfl⟩
   rw [← hF] at HFT ⊢
   rw [← hB] at HST HROW hlen HLT HBK ⊢
   clear hF hB
   have HBI : Hid (V.uj x = (if x.lk = 0 then [] else [(x.low, true)]) ++ (if x.hk = 0 then [] else [(x.high, false)])) := zwe rfl
   have hbA : Below wr.heap.size wr (wr.alloc (.cells #[.string ⟨x.lo.toArray⟩, .int .i64 x.lk, .string ⟨x.hi.toArray⟩, .int .i64 x.hk] 82)) := (zwh _ wr).alloc (zwg _) _
   have HBA := zwf HBX hbA
   have HRA := zwe (GRow.below HROW.out hbA)
   have hx4 : zca (wr.alloc (.cells #[.string ⟨x.lo.toArray⟩, .int .i64 x.lk, .string ⟨x.hi.toArray⟩, .int .i64 x.hk] 82)) wr.heap.size 0 x := by
    exact z11
   have HX4 := zwe hx4
   have hszA : wr.heap.size < (wr.alloc (.cells #[.string ⟨x.lo.toArray⟩, .int .i64 x.lk, .string ⟨x.hi.toArray⟩, .int .i64 x.hk] 82)).heap.size := by simp
   clear hbA hx4 HROW
   have hfst : wr.heap.size < (wr.alloc (.cells #[.string ⟨x.lo.toArray⟩, .int .i64 x.lk, .string ⟨x.hi.toArray⟩, .int .i64 x.hk] 82)).heap.size := hszA
   have hNA : w.heap.size ≤ (wr.alloc (.cells #[.string ⟨x.lo.toArray⟩, .int .i64 x.lk, .string ⟨x.hi.toArray⟩, .int .i64 x.hk] 82)).heap.size := by omega
   obtain ⟨d0, d1, d2, d3⟩ := HX4.out
   rw [Nat.zero_add] at d1 d2 d3
   clear HX4 hszA
   rcases hlk : (x.lk == 0) with _ | _
   ·rcases hhk : (x.hk != 0) with _ | _
    ·have HST1 : Hid ((l.take (k + 1)).flatMap V.uj = (B ++ [(x.low, true)]) ++ (if x.hk = 0 then [] else [(x.high, false)])) := zwe (by rw [HST.out, HBI.out, if_neg (show ¬ x.lk = 0 by simpa using hlk), List.append_assoc])
     have HFV : Hid (Value.bool F = Value.bool (V.zr (l.take (k + 1)))) := zwe (by rw [HFT.out, decide_eq_false (show ¬ x.lk = 0 by simpa using hlk), Bool.or_false])
     go_wp2_with fail
     generalize wr.alloc (.cells #[.string ⟨x.lo.toArray⟩, .int .i64 x.lk, .string ⟨x.hi.toArray⟩, .int .i64 x.hk] 82) = W1 at *
     refine (zbp x W1).mono ?_
     rintro e W2 ⟨rfl, hb2⟩
     have k0 := za hb2 d0
     have k1 := za hb2 d1
     have k2 := za hb2 d2
     have k3 := za hb2 d3
     have hbC : Below W2.heap.size W2 (W2.alloc (.cells #[.string ⟨x.low.1.toArray⟩, .bool x.low.2, .bool true] 198)) := (zwh _ W2).alloc (zwg _) _
     have HR2 := zwe (GRow.below (GRow.below HRA.out hb2) hbC)
     have HB2 := zwf HBA hb2
     have HB3 := zwf HB2 hbC
     have hN2 : w.heap.size ≤ W2.heap.size := Nat.le_trans hNA hb2.size
     have e0 := za hbC k0
     have e1 := za hbC k1
     have e2 := za hbC k2
     have e3 := za hbC k3
     have HNW : Hid (∀ j u, (ko (x.low, true))[j]? = some u -> (W2.alloc (.cells #[.string ⟨x.low.1.toArray⟩, .bool x.low.2, .bool true] 198)).cell? ⟨W2.heap.size, j, none⟩ = some u) := zwe (fun j u hu => by rw [World.cell?_alloc_new]; simpa [ko] using hu)
     clear hb2 hbC d0 d1 d2 d3 k0 k1 k2 k3 HRA HBA
     unfold cutV
     go_wp2_with (first | (refine zl jy (by decide) ke xc (by decide) rfl _ _ 194 rfl Tryz.underlying194 w.heap.size (.slice oa B.length oc) B rfl HR2.out W2.heap.size (x.low, true) rfl HNW.out (by omega) (by simp; omega) ?_; intro v3 W3 hr3 hg3; have m0 := yw hg3 HLT.out e0; have m1 := yw hg3 HLT.out e1; have m2 := yw hg3 HLT.out e2; have m3 := yw hg3 HLT.out e3) | fail)
     have HB5 : Hid (Below w.heap.size w W3) := zwe (HB3.out.trans (zk hg3 HBK.out (zwg _) (by simp; omega)))
     have HR5 : Hid (BRow W3 w.heap.size v3 (B ++ [(x.low, true)])) := zwe hr3
     have hN5 : w.heap.size ≤ W3.heap.size := HB5.out.size
     have HBK5 : Hid (∀ b, v3.ownBlock = some b -> w.heap.size ≤ b) := zwe (GRow.block hr3)
     have hlen5 : (B ++ [(x.low, true)]).length ≤ 2 * l.length + 1 := by simp; omega
     generalize B ++ [(x.low, true)] = B5 at *
     clear hr3 hg3 e0 e1 e2 e3 HNW
     have HR7 : Hid (BRow W3 w.heap.size v3 ((l.take (k + 1)).flatMap V.uj)) := zwe (by rw [HST1.out, if_pos (show x.hk = 0 by simpa using hhk), List.append_nil]; exact HR5.out)
     exact z06
    ·have HST1 : Hid ((l.take (k + 1)).flatMap V.uj = (B ++ [(x.low, true)]) ++ (if x.hk = 0 then [] else [(x.high, false)])) := zwe (by rw [HST.out, HBI.out, if_neg (show ¬ x.lk = 0 by simpa using hlk), List.append_assoc])
     have HFV : Hid (Value.bool F = Value.bool (V.zr (l.take (k + 1)))) := zwe (by rw [HFT.out, decide_eq_false (show ¬ x.lk = 0 by simpa using hlk), Bool.or_false])
     go_wp2_with fail
     generalize wr.alloc (.cells #[.string ⟨x.lo.toArray⟩, .int .i64 x.lk, .string ⟨x.hi.toArray⟩, .int .i64 x.hk] 82) = W1 at *
     refine (zbp x W1).mono ?_
     rintro e W2 ⟨rfl, hb2⟩
     have k0 := za hb2 d0
     have k1 := za hb2 d1
     have k2 := za hb2 d2
     have k3 := za hb2 d3
     have hbC : Below W2.heap.size W2 (W2.alloc (.cells #[.string ⟨x.low.1.toArray⟩, .bool x.low.2, .bool true] 198)) := (zwh _ W2).alloc (zwg _) _
     have HR2 := zwe (GRow.below (GRow.below HRA.out hb2) hbC)
     have HB2 := zwf HBA hb2
     have HB3 := zwf HB2 hbC
     have hN2 : w.heap.size ≤ W2.heap.size := Nat.le_trans hNA hb2.size
     have e0 := za hbC k0
     have e1 := za hbC k1
     have e2 := za hbC k2
     have e3 := za hbC k3
     have HNW : Hid (∀ j u, (ko (x.low, true))[j]? = some u -> (W2.alloc (.cells #[.string ⟨x.low.1.toArray⟩, .bool x.low.2, .bool true] 198)).cell? ⟨W2.heap.size, j, none⟩ = some u) := zwe (fun j u hu => by rw [World.cell?_alloc_new]; simpa [ko] using hu)
     clear hb2 hbC d0 d1 d2 d3 k0 k1 k2 k3 HRA HBA
     unfold cutV
     go_wp2_with (first | (refine zl jy (by decide) ke xc (by decide) rfl _ _ 194 rfl Tryz.underlying194 w.heap.size (.slice oa B.length oc) B rfl HR2.out W2.heap.size (x.low, true) rfl HNW.out (by omega) (by simp; omega) ?_; intro v3 W3 hr3 hg3; have m0 := yw hg3 HLT.out e0; have m1 := yw hg3 HLT.out e1; have m2 := yw hg3 HLT.out e2; have m3 := yw hg3 HLT.out e3) | fail)
     have HB5 : Hid (Below w.heap.size w W3) := zwe (HB3.out.trans (zk hg3 HBK.out (zwg _) (by simp; omega)))
     have HR5 : Hid (BRow W3 w.heap.size v3 (B ++ [(x.low, true)])) := zwe hr3
     have hN5 : w.heap.size ≤ W3.heap.size := HB5.out.size
     have HBK5 : Hid (∀ b, v3.ownBlock = some b -> w.heap.size ≤ b) := zwe (GRow.block hr3)
     have hlen5 : (B ++ [(x.low, true)]).length ≤ 2 * l.length + 1 := by simp; omega
     generalize B ++ [(x.low, true)] = B5 at *
     clear hr3 hg3 e0 e1 e2 e3 HNW
     refine (vg x W3).mono ?_
     rintro e W4 ⟨rfl, hb4⟩
     have hbC : Below W4.heap.size W4 (W4.alloc (.cells #[.string ⟨x.high.1.toArray⟩, .bool x.high.2, .bool false] 198)) := (zwh _ W4).alloc (zwg _) _
     have HR6 := zwe (GRow.below (GRow.below HR5.out hb4) hbC)
     have HB4 := zwf HB5 hb4
     have HB6 := zwf HB4 hbC
     have hN4 : w.heap.size ≤ W4.heap.size := HB4.out.size
     have HNW : Hid (∀ j u, (ko (x.high, false))[j]? = some u -> (W4.alloc (.cells #[.string ⟨x.high.1.toArray⟩, .bool x.high.2, .bool false] 198)).cell? ⟨W4.heap.size, j, none⟩ = some u) := zwe (fun j u hu => by rw [World.cell?_alloc_new]; simpa [ko] using hu)
     clear hb4 hbC
     unfold cutV
     go_wp2_with (first | (refine zl jy (by decide) ke xc (by decide) rfl _ _ 194 rfl Tryz.underlying194 w.heap.size v3 B5 rfl HR6.out W4.heap.size (x.high, false) rfl HNW.out (by omega) (by simp; omega) ?_; intro v6 W6 hr6 hg6) | fail)
     exact zyb
   ·rcases hhk : (x.hk != 0) with _ | _
    ·have HST1 : Hid ((l.take (k + 1)).flatMap V.uj = B ++ (if x.hk = 0 then [] else [(x.high, false)])) := zwe (by rw [HST.out, HBI.out, if_pos (eq_of_beq hlk), List.nil_append])
     have HFV : Hid (Value.bool true = Value.bool (V.zr (l.take (k + 1)))) := zwe (by rw [HFT.out, decide_eq_true (eq_of_beq hlk), Bool.or_true])
     go_wp2_with fail
     generalize wr.alloc (.cells #[.string ⟨x.lo.toArray⟩, .int .i64 x.lk, .string ⟨x.hi.toArray⟩, .int .i64 x.hk] 82) = W3 at *
     have HB5 := HBA
     have HR5 : Hid (BRow W3 w.heap.size (.slice oa B.length oc) B) := HRA
     have hN5 : w.heap.size ≤ W3.heap.size := HB5.out.size
     have HBK5 := HBK
     have hlen5 : B.length ≤ 2 * l.length + 1 := by omega
     have HR7 : Hid (BRow W3 w.heap.size (.slice oa B.length oc) ((l.take (k + 1)).flatMap V.uj)) := zwe (by rw [HST1.out, if_pos (show x.hk = 0 by simpa using hhk), List.append_nil]; exact HR5.out)
     exact z06
    ·have HST1 : Hid ((l.take (k + 1)).flatMap V.uj = B ++ (if x.hk = 0 then [] else [(x.high, false)])) := zwe (by rw [HST.out, HBI.out, if_pos (eq_of_beq hlk), List.nil_append])
     have HFV : Hid (Value.bool true = Value.bool (V.zr (l.take (k + 1)))) := zwe (by rw [HFT.out, decide_eq_true (eq_of_beq hlk), Bool.or_true])
     go_wp2_with fail
     generalize wr.alloc (.cells #[.string ⟨x.lo.toArray⟩, .int .i64 x.lk, .string ⟨x.hi.toArray⟩, .int .i64 x.hk] 82) = W3 at *
     have HB5 := HBA
     have HR5 : Hid (BRow W3 w.heap.size (.slice oa B.length oc) B) := HRA
     have hN5 : w.heap.size ≤ W3.heap.size := HB5.out.size
     have HBK5 := HBK
     have hlen5 : B.length ≤ 2 * l.length + 1 := by omega
     refine (vg x W3).mono ?_
     rintro e W4 ⟨rfl, hb4⟩
     have hbC : Below W4.heap.size W4 (W4.alloc (.cells #[.string ⟨x.high.1.toArray⟩, .bool x.high.2, .bool false] 198)) := (zwh _ W4).alloc (zwg _) _
     have HR6 := zwe (GRow.below (GRow.below HR5.out hb4) hbC)
     have HB4 := zwf HB5 hb4
     have HB6 := zwf HB4 hbC
     have hN4 : w.heap.size ≤ W4.heap.size := HB4.out.size
     have HNW : Hid (∀ j u, (ko (x.high, false))[j]? = some u -> (W4.alloc (.cells #[.string ⟨x.high.1.toArray⟩, .bool x.high.2, .bool false] 198)).cell? ⟨W4.heap.size, j, none⟩ = some u) := zwe (fun j u hu => by rw [World.cell?_alloc_new]; simpa [ko] using hu)
     clear hb4 hbC
     unfold cutV
     go_wp2_with (first | (refine zl jy (by decide) ke xc (by decide) rfl _ _ 194 rfl Tryz.underlying194 w.heap.size (.slice oa B.length oc) B rfl HR6.out W4.heap.size (x.high, false) rfl HNW.out (by omega) (by simp; omega) ?_; intro v6 W6 hr6 hg6) | fail)
     exact zyb
  ·obtain rfl : k = l.length := by omega
   have HT : Hid (l.take l.length = l) := zwe (List.take_length ..)
   rw [HT.out] at HROW ⊢
   go_wp2
   go_ret2
   exact ⟨_, rfl, HROW.out, HBX.out⟩
open Go.RowKit
def Bords (w : World) (v : Value) (B : List (V.Cut × Bool)) : Prop := ∃ a cap, v = .slice a B.length cap /\ ∀ j (h : j < B.length), ∃ g off, a = some ⟨g, off, none⟩ /\ g < w.heap.size /\
 w.cell? ⟨g, off + j * 3, none⟩ = some (.string ⟨B[j].1.1.toArray⟩) /\ w.cell? ⟨g, off + j * 3 + 1, none⟩ = some (.bool B[j].1.2) /\ w.cell? ⟨g, off + j * 3 + 2, none⟩ = some (.bool B[j].2)
theorem BRow.bords {w : World} {N : Nat} {v : Value} {B : List (V.Cut × Bool)} (h : BRow w N v B) : Bords w v B := by
 obtain ⟨a, cap, rfl⟩ := GRow.slice h
 refine ⟨a, cap, rfl, fun j hj => ?_⟩
 obtain ⟨g, c, e, _, hlt, hc⟩ := GRow.at jy h j hj
 cases e
 refine ⟨g, 0, rfl, hlt, ?_, ?_, ?_⟩
 ·rw [Nat.zero_add]; have := hc 0 _ rfl; rwa [Nat.add_zero] at this
 ·rw [Nat.zero_add]; exact hc 1 _ rfl
 ·rw [Nat.zero_add]; exact hc 2 _ rfl
theorem Bords.below {w w' : World} {v : Value} {B : List (V.Cut × Bool)} (h : Bords w v B) (hb : Below w.heap.size w w') : Bords w' v B := by
 obtain ⟨a, cap, e, hc⟩ := h
 refine ⟨a, cap, e, fun j hj => ?_⟩
 obtain ⟨g, off, ea, hlt, h0, h1, h2⟩ := hc j hj
 exact ⟨g, off, ea, Nat.lt_of_lt_of_le hlt hb.size, za hb h0, za hb h1, za hb h2⟩
theorem Bords.slice {w : World} {v : Value} {B : List (V.Cut × Bool)} (h : Bords w v B) : ∃ a cap, v = .slice a B.length cap := by
 obtain ⟨a, c, e, _⟩ := h
 exact ⟨a, c, e⟩
theorem Bords.at {w : World} {a : Option Addr} {n cap : Nat} {B : List (V.Cut × Bool)} (h : Bords w (.slice a n cap) B) (j : Nat) (hj : j < B.length) : ∃ g off, a = some ⟨g, off, none⟩ /\ g < w.heap.size /\
  w.cell? ⟨g, off + j * 3, none⟩ = some (.string ⟨B[j].1.1.toArray⟩) /\ w.cell? ⟨g, off + j * 3 + 1, none⟩ = some (.bool B[j].1.2) /\ w.cell? ⟨g, off + j * 3 + 2, none⟩ = some (.bool B[j].2) := by
 obtain ⟨a', c, e, hc⟩ := h
 obtain ⟨g, off, ea, hr⟩ := hc j hj
 cases e
 exact ⟨g, off, ea, hr⟩
def itvE (x : V.Itv) : List Value := [.string ⟨x.lo.toArray⟩, .int .i64 x.lk, .string ⟨x.hi.toArray⟩, .int .i64 x.hk]
theorem ws (x : V.Itv) : (itvE x).length = 4 := rfl
theorem zcn (x : V.Itv) : ∀ u ∈ itvE x, u.oneCell' = true := by
 intro u hu
 simp [itvE] at hu
 rcases hu with rfl | rfl | rfl | rfl <;> rfl
theorem zey : xq 82 4 48 := by
 have h : (match Tryz.prog.info? 82 with | some i => i.size == 4 && (i.bytes == 48 && (match i.zero with | some z => z.cells.size == 4 | none => false)) | none => false) = true := by kernel_rfl
 unfold xq
 cases hq : Tryz.prog.info? 82 with
 | none => rw [hq] at h; cases h
 | some i =>
  exact zw1
def zgf (w : World) (N : Nat) (v : Value) (l : List V.Itv) : Prop := GRow 82 4 itvE w N v l
theorem zgf.itvs {w : World} {N : Nat} {v : Value} {l : List V.Itv} (h : zgf w N v l) : Itvs w v l := by
 obtain ⟨a, cap, rfl⟩ := GRow.slice h
 refine ⟨a, cap, rfl, fun j hj => ?_⟩
 obtain ⟨g, c, e, _, hlt, hc⟩ := GRow.at ws h j hj
 cases e
 refine ⟨g, 0, rfl, hlt, ?_, ?_, ?_, ?_⟩
 ·rw [Nat.zero_add]; have := hc 0 _ rfl; rwa [Nat.add_zero] at this
 ·rw [Nat.zero_add]; exact hc 1 _ rfl
 ·rw [Nat.zero_add]; exact hc 2 _ rfl
 ·rw [Nat.zero_add]; exact hc 3 _ rfl
def itvC (x : V.Itv) : Array Value := #[.string ⟨x.lo.toArray⟩, .int .i64 x.lk, .string ⟨x.hi.toArray⟩, .int .i64 x.hk]
theorem xr (w : World) (a b c : Obj) : (((w.alloc a).alloc b).alloc c).heap[w.heap.size]? = some a /\ (((w.alloc a).alloc b).alloc c).heap[w.heap.size + 1]? = some b /\ (((w.alloc a).alloc b).alloc c).heap[w.heap.size + 1 + 1]? = some c /\ (((w.alloc a).alloc b).alloc c).heap.size = w.heap.size + 1 + 1 + 1 := by
 refine ⟨?_, ?_, ?_, by simp⟩
 ·rw [heap_alloc, if_neg (by simp; omega), heap_alloc, if_neg (by simp), heap_alloc, if_pos rfl]
 ·rw [heap_alloc, if_neg (by simp), heap_alloc, if_pos (by simp)]
 ·rw [heap_alloc, if_pos (by simp)]
theorem zsa (x : V.Itv) : (itvC x).all (·.oneCell') = true := by simp [itvC, Value.oneCell']
theorem zt (n : Int) (a : Option Addr) (len cap : Nat) : (#[Value.int .i64 n, .slice a len cap] : Array Value).all (·.oneCell') = true := by simp [Value.oneCell']
theorem kj : (Tryz.prog.info? 82).map (·.size) = some 4 := by kernel_rfl
theorem zoz : (Tryz.prog.info? 9).map (·.size) = some 1 := by kernel_rfl
theorem zus : (Tryz.prog.info? 3).map (·.size) = some 1 := by kernel_rfl
theorem zd5 : (Tryz.prog.info? 43).map (·.size) = some 1 := by kernel_rfl
structure BInv (n : Int) (first : Bool) (R : List V.Cut) (w : World) (k : Nat) (D : List V.Itv) (u : Value) (cur : V.Itv) (W : World) : Prop where
 row : zgf W (w.heap.size + 1 + 1 + 1) u D
 res : W.heap[w.heap.size]? = some (.cells #[.int .i64 0, .slice none 0 0] 45 (0, 0))
 out : W.heap[w.heap.size + 1]? = some (.cells #[.int .i64 n, u] 45 (0, 0))
 box : W.heap[w.heap.size + 1 + 1]? = some (.cells (itvC cur) 82 (0, 0))
 below : Below w.heap.size w W
 size : w.heap.size + 1 + 1 + 1 ≤ W.heap.size
 isOpen : V.par first k = true -> ∃ a, cur = V.mkI a none /\ V.ofC (V.start first) R = D ++ V.ofC (some a) (R.drop k)
 shut : V.par first k = false -> V.ofC (V.start first) R = D ++ V.ofC none (R.drop k)
 len : D.length ≤ k
theorem zz8 {P : Prop} (h : P := by
 have HIN := zwe (HFIN.out W2 hp2)
 clear hp2
 go_roundw
 case rel => exact ⟨k + 1, D, _, _, by omega, by go_num, by rw [HP1.out], HIN.out⟩
 case measure => simp [intOf]; omega) : P := h
theorem z0i {P : Prop} (h : P := by
 clear hp2 hp3 hr5 hg5 hp6 hbA
 go_roundw
 case rel => exact ⟨k + 1, _, _, _, by omega, by go_num, by rw [HP1.out], HIN.out⟩
 case measure => simp [intOf]; omega) : P := h
theorem zq3 (n : Int) (first : Bool) (v : Value) (R : List V.Cut) (w : World) (hv : Bords w v (V.alt first R)) (hl : R.length ≤ 1000) :
  Calls Tryz.prog 169 #[.int .i64 n, .bool first, v] w fun e w' => ∃ u, e = .returned (setV n u) /\ Itvs w' u (V.ofC (V.start first) R) /\ (∀ c, u.ownBlock = some c -> w.heap.size ≤ c) /\ Below w.heap.size w w' := by
 have HV := zwe hv
 obtain ⟨va, vc, rfl⟩ := hv.slice
 have hal := V.ym first R
 have HAL := zwe hal
 rw [hal]
 rw [hal] at HV
 clear hv hal
 go_enter Tryz.func169, Tryz.ntmps169
 go_wp2_with fail
 have HI : Hid (BInv n first R w 0 [] (.slice none 0 0) V.noI (((w.alloc (.cells #[.int .i64 0, .slice none 0 0] 45)).alloc (.cells #[.int .i64 n, .slice none 0 0] 45)).alloc (.cells #[.string ⟨#[]⟩, .int .i64 0, .string ⟨#[]⟩, .int .i64 0] 82))) := zwe (by
   refine ⟨GRow.nil _ _, (xr w _ _ _).1, (xr w _ _ _).2.1, (xr w _ _ _).2.2.1, (((zwh _ _).alloc (zwg _) _).alloc (by simp) _).alloc (by simp; omega) _, by simp, fun h => ?_, fun h => ?_, by simp⟩
   · rw [V.zlu] at h
     subst h
     exact ⟨none, rfl, rfl⟩
   · rw [V.zlu] at h
     subst h
     rfl)
 generalize ((w.alloc (.cells #[.int .i64 0, .slice none 0 0] 45)).alloc (.cells #[.int .i64 n, .slice none 0 0] 45)).alloc (.cells #[.string ⟨#[]⟩, .int .i64 0, .string ⟨#[]⟩, .int .i64 0] 82) = w0 at *
 go_loopw [9, 17] (fun bv iv wx => ∃ (k : Nat) (D : List V.Itv) (u : Value) (cur : V.Itv), k ≤ R.length /\ iv = .int .i64 k /\ bv = .bool (V.par first k) /\ BInv n first R w k D u cur wx) (fun _ iv _ => R.length - (intOf iv).toNat)
 case atStart => exact ⟨0, [], _, V.noI, Nat.zero_le _, rfl, rfl, HI.out⟩
 case round =>
  obtain ⟨k, D, u, cur, hk, rfl, rfl, hinv⟩ := hrel
  have HINV := zwe hinv
  obtain ⟨ua, uc, rfl⟩ := GRow.slice hinv.row
  clear hinv
  by_cases hlt : k < R.length
  ·obtain ⟨g, off, rfl, hgl, h0, h1, h2⟩ := HV.out.at k (by rw [HAL.out]; exact hlt)
   have hB := HINV.out.below
   have h0' := za hB h0
   have h1' := za hB h1
   have h2' := za hB h2
   have hat := V.zhp first R k hlt
   have hge : (V.alt first R)[k]'(by rw [HAL.out]; exact hlt) = (R[k], V.par first (k + 1)) := by
    have := List.getElem?_eq_getElem (l := V.alt first R) (i := k) (by rw [HAL.out]; exact hlt)
    rw [hat] at this
    exact (Option.some.inj this).symm
   rw [hge] at h0' h1' h2'
   rw [V.zy] at h2'
   have hi1 : (0 : Int) ≤ (k : Int) := by omega
   have hi2 : (k : Int) < (R.length : Int) := by omega
   have HDR : Hid (R.drop k = R[k] :: R.drop (k + 1)) := zwe (List.drop_eq_getElem_cons hlt)
   clear h0 h1 h2 hat hge hB
   obtain ⟨⟨c, af⟩, hc⟩ : ∃ c, c = R[k] := ⟨_, rfl⟩
   rw [← hc] at h0' h1' HDR
   simp only at h0' h1'
   clear hc
   have hb1 : Below wr.heap.size wr (wr.alloc (.cells #[.string ⟨c.toArray⟩, .bool af, .bool (!V.par first k)] 198)) := (zwh _ wr).alloc (zwg _) _
   have hsz := HINV.out.size
   have K6 := hb1.block _ (show w.heap.size < wr.heap.size by omega)
   have K7 := hb1.block _ (show w.heap.size + 1 < wr.heap.size by omega)
   have K8 := hb1.block _ (show w.heap.size + 1 + 1 < wr.heap.size by omega)
   rw [HINV.out.res] at K6
   rw [HINV.out.out] at K7
   rw [HINV.out.box] at K8
   have HK := zwe (And.intro K6 (And.intro K7 K8))
   have HB1 := zwe (HINV.out.below.trans (hb1.mono HINV.out.below.size))
   have HR1 := zwe (GRow.below HINV.out.row hb1)
   have hsz1 : w.heap.size + 1 + 1 + 1 ≤ (wr.alloc (.cells #[.string ⟨c.toArray⟩, .bool af, .bool (!V.par first k)] 198)).heap.size := by simp; omega
   have n0 : (wr.alloc (.cells #[.string ⟨c.toArray⟩, .bool af, .bool (!V.par first k)] 198)).cell? ⟨wr.heap.size, 0, none⟩ = some (.string ⟨c.toArray⟩) := by rw [World.cell?_alloc_new]; rfl
   have n1 : (wr.alloc (.cells #[.string ⟨c.toArray⟩, .bool af, .bool (!V.par first k)] 198)).cell? ⟨wr.heap.size, 1, none⟩ = some (.bool af) := by rw [World.cell?_alloc_new]; rfl
   have n2 : (wr.alloc (.cells #[.string ⟨c.toArray⟩, .bool af, .bool (!V.par first k)] 198)).cell? ⟨wr.heap.size, 2, none⟩ = some (.bool (!V.par first k)) := by rw [World.cell?_alloc_new]; rfl
   clear K6 K7 K8 hb1
   have hne6 : wr.heap.size ≠ w.heap.size := by omega
   have hne7 : wr.heap.size ≠ w.heap.size + 1 := by omega
   have hne8 : wr.heap.size ≠ w.heap.size + 1 + 1 := by omega
   rcases hp : V.par first k with _ | _
   ·have HSH := zwe (HINV.out.shut hp)
    have HP1 : Hid (V.par first (k + 1) = true) := zwe (by rw [V.zy, hp]; rfl)
    have HLD := zwe HINV.out.len
    rw [hp] at h2' n2 hsz1 n1 n0 HR1 HB1 HK
    simp only [Bool.not_false] at h2' n2 hsz1 n1 n0 HR1 HB1 HK
    rw [HDR.out] at HSH
    have FIN : ∀ W2 : World, PutAt (wr.alloc (.cells #[.string ⟨c.toArray⟩, .bool af, .bool true] 198)) W2 (w.heap.size + 1 + 1) (itvC (V.mkI (some (c, af)) none)) 82 -> BInv n first R w (k + 1) D (.slice ua D.length uc) (V.mkI (some (c, af)) none) W2 := fun W2 hp2 => by
     refine ⟨hp2.row HR1.out (by omega), hp2.other HK.out.1 (by omega), hp2.other HK.out.2.1 (by omega), hp2.here, hp2.below HB1.out (by omega), by rw [hp2.size]; exact hsz1, fun _ => ⟨some (c, af), rfl, HSH.out⟩, fun h => ?_, by have := HLD.out; omega⟩
     rw [HP1.out] at h
     cases h
    have HFIN := zwe FIN
    clear FIN
    cases af
    ·go_wp2_with (first | (refine zi rfl _ _ _ rfl (w.heap.size + 1 + 1) (itvC cur) _ HK.out.2.2 rfl (itvC (V.mkI (some (c, false)) none)) rfl rfl kj (zsa _) ?_; intro W2 hp2; have q2 := hp2.cell n2 hne8) | fail)
     exact zz8
    ·go_wp2_with (first | (refine zi rfl _ _ _ rfl (w.heap.size + 1 + 1) (itvC cur) _ HK.out.2.2 rfl (itvC (V.mkI (some (c, true)) none)) rfl rfl kj (zsa _) ?_; intro W2 hp2; have q2 := hp2.cell n2 hne8) | fail)
     exact zz8
   ·obtain ⟨a, rfl, hof⟩ := HINV.out.isOpen hp
    have HOF := zwe hof
    have HP1 : Hid (V.par first (k + 1) = false) := zwe (by rw [V.zy, hp]; rfl)
    have HLD := zwe HINV.out.len
    have HLT := zwe (GRow.lt HINV.out.row)
    have HBL := zwe (GRow.block HINV.out.row)
    rw [hp] at h2' n2 hsz1 n1 n0 HR1 HB1 HK
    simp only [Bool.not_true] at h2' n2 hsz1 n1 n0 HR1 HB1 HK
    rw [HDR.out] at HOF
    clear hof
    cases af
    ·have HY : Hid ((V.ofC (V.start first) R) = (D ++ [V.mkI a (some (c, false))]) ++ V.ofC none (R.drop (k + 1))) := zwe (by rw [HOF.out, List.append_assoc]; rfl)
     go_wp2_with (first
       | (refine zan rfl 9 _ _ rfl (w.heap.size + 1 + 1) 2 (itvC (V.mkI a none)) _ HK.out.2.2 (by simp [itvC]) rfl (.string ⟨c.toArray⟩) rfl zoz rfl ?_; intro W2 hp2; have q0 := hp2.cell n0 hne8; have q1 := hp2.cell n1 hne8; have q2 := hp2.cell n2 hne8)
       | (refine zan rfl 3 _ _ rfl (w.heap.size + 1 + 1) 3 ((itvC (V.mkI a none)).setIfInBounds 2 (.string ⟨c.toArray⟩)) _ hp2.here (by simp [itvC]) rfl (.int .i64 2) rfl zus rfl ?_; intro W3 hp3; have r2 := hp3.cell q2 hne8; have t1 : W3.cell? ⟨w.heap.size + 1, 1, none⟩ = some (.slice ua D.length uc) := zwd (hp3.other (hp2.other HK.out.2.1 (by omega)) (by omega)) 1; have u0 : W3.cell? ⟨w.heap.size + 1 + 1, 0, none⟩ = some (.string ⟨(V.mkI a (some (c, false))).lo.toArray⟩) := zwd hp3.here 0; have u1 : W3.cell? ⟨w.heap.size + 1 + 1, 1, none⟩ = some (.int .i64 (V.mkI a (some (c, false))).lk) := zwd hp3.here 1; have u2 : W3.cell? ⟨w.heap.size + 1 + 1, 2, none⟩ = some (.string ⟨(V.mkI a (some (c, false))).hi.toArray⟩) := zwd hp3.here 2; have u3 : W3.cell? ⟨w.heap.size + 1 + 1, 3, none⟩ = some (.int .i64 (V.mkI a (some (c, false))).hk) := zwd hp3.here 3)
       | (refine zl ws (by decide) zcn zey (by decide) rfl _ _ 43 rfl Tryz.underlying43 (w.heap.size + 1 + 1 + 1) (.slice ua D.length uc) D rfl (GRow.below (hp3.row (hp2.row HR1.out (by omega)) (by omega)) ((zwh _ W3).alloc (zwg _) _)) W3.heap.size (V.mkI a (some (c, false))) rfl (fun j u hu => by rw [World.cell?_alloc_new]; simpa [itvE] using hu) (by have := HLD.out; omega) (by have e3 := hp3.size; have e2 := hp2.size; simp; omega) ?_; intro v5 W5 hr5 hg5)
       | (refine zan rfl 43 _ _ rfl (w.heap.size + 1) 1 #[.int .i64 n, .slice ua D.length uc] _ (kz hg5 HBL.out (by omega) (((zwh _ W3).alloc (zwg _) _).block _ (by have e3 := hp3.size; have e2 := hp2.size; omega) |>.trans (hp3.other (hp2.other HK.out.2.1 (by omega)) (by omega)))) (by simp) rfl v5 rfl zd5 (by obtain ⟨_, _, e⟩ := GRow.slice hr5; rw [e]; rfl) ?_; intro W6 hp6)
       | fail)
     have e3 := hp3.size
     have e2 := hp2.size
     have hbA := (zwh W3.heap.size W3).alloc (zwg _) (.cells (itvC (V.mkI a (some (c, false)))) 82)
     have HIN : Hid (BInv n first R w (k + 1) (D ++ [V.mkI a (some (c, false))]) v5 (V.mkI a (some (c, false))) W6) := zwe (by
       have hB3 : Below w.heap.size w W3 := hp3.below (hp2.below HB1.out (by omega)) (by omega)
       have hB5 : Below w.heap.size w W5 := (hB3.trans (hbA.mono hB3.size)).trans (zk hg5 HBL.out (by omega) (by show w.heap.size + 1 + 1 + 1 ≤ (W3.alloc _).heap.size; simp; omega))
       refine ⟨hp6.row hr5 (by omega), hp6.other (kz hg5 HBL.out (by omega) ((hbA.block _ (by omega)).trans (hp3.other (hp2.other HK.out.1 (by omega)) (by omega)))) (by omega), hp6.here, hp6.other (kz hg5 HBL.out (by omega) ((hbA.block _ (by omega)).trans hp3.here)) (by omega), hp6.below hB5 (by omega), ?_, fun h => ?_, fun _ => HY.out, ?_⟩
       · have := hg5.size; rw [hp6.size]; simp at this; omega
       · rw [HP1.out] at h; cases h
       · have := HLD.out; simp; omega)
     exact z0i
    ·have HY : Hid ((V.ofC (V.start first) R) = (D ++ [V.mkI a (some (c, true))]) ++ V.ofC none (R.drop (k + 1))) := zwe (by rw [HOF.out, List.append_assoc]; rfl)
     go_wp2_with (first
       | (refine zan rfl 9 _ _ rfl (w.heap.size + 1 + 1) 2 (itvC (V.mkI a none)) _ HK.out.2.2 (by simp [itvC]) rfl (.string ⟨c.toArray⟩) rfl zoz rfl ?_; intro W2 hp2; have q0 := hp2.cell n0 hne8; have q1 := hp2.cell n1 hne8; have q2 := hp2.cell n2 hne8)
       | (refine zan rfl 3 _ _ rfl (w.heap.size + 1 + 1) 3 ((itvC (V.mkI a none)).setIfInBounds 2 (.string ⟨c.toArray⟩)) _ hp2.here (by simp [itvC]) rfl (.int .i64 1) rfl zus rfl ?_; intro W3 hp3; have r2 := hp3.cell q2 hne8; have t1 : W3.cell? ⟨w.heap.size + 1, 1, none⟩ = some (.slice ua D.length uc) := zwd (hp3.other (hp2.other HK.out.2.1 (by omega)) (by omega)) 1; have u0 : W3.cell? ⟨w.heap.size + 1 + 1, 0, none⟩ = some (.string ⟨(V.mkI a (some (c, true))).lo.toArray⟩) := zwd hp3.here 0; have u1 : W3.cell? ⟨w.heap.size + 1 + 1, 1, none⟩ = some (.int .i64 (V.mkI a (some (c, true))).lk) := zwd hp3.here 1; have u2 : W3.cell? ⟨w.heap.size + 1 + 1, 2, none⟩ = some (.string ⟨(V.mkI a (some (c, true))).hi.toArray⟩) := zwd hp3.here 2; have u3 : W3.cell? ⟨w.heap.size + 1 + 1, 3, none⟩ = some (.int .i64 (V.mkI a (some (c, true))).hk) := zwd hp3.here 3)
       | (refine zl ws (by decide) zcn zey (by decide) rfl _ _ 43 rfl Tryz.underlying43 (w.heap.size + 1 + 1 + 1) (.slice ua D.length uc) D rfl (GRow.below (hp3.row (hp2.row HR1.out (by omega)) (by omega)) ((zwh _ W3).alloc (zwg _) _)) W3.heap.size (V.mkI a (some (c, true))) rfl (fun j u hu => by rw [World.cell?_alloc_new]; simpa [itvE] using hu) (by have := HLD.out; omega) (by have e3 := hp3.size; have e2 := hp2.size; simp; omega) ?_; intro v5 W5 hr5 hg5)
       | (refine zan rfl 43 _ _ rfl (w.heap.size + 1) 1 #[.int .i64 n, .slice ua D.length uc] _ (kz hg5 HBL.out (by omega) (((zwh _ W3).alloc (zwg _) _).block _ (by have e3 := hp3.size; have e2 := hp2.size; omega) |>.trans (hp3.other (hp2.other HK.out.2.1 (by omega)) (by omega)))) (by simp) rfl v5 rfl zd5 (by obtain ⟨_, _, e⟩ := GRow.slice hr5; rw [e]; rfl) ?_; intro W6 hp6)
       | fail)
     have e3 := hp3.size
     have e2 := hp2.size
     have hbA := (zwh W3.heap.size W3).alloc (zwg _) (.cells (itvC (V.mkI a (some (c, true)))) 82)
     have HIN : Hid (BInv n first R w (k + 1) (D ++ [V.mkI a (some (c, true))]) v5 (V.mkI a (some (c, true))) W6) := zwe (by
       have hB3 : Below w.heap.size w W3 := hp3.below (hp2.below HB1.out (by omega)) (by omega)
       have hB5 : Below w.heap.size w W5 := (hB3.trans (hbA.mono hB3.size)).trans (zk hg5 HBL.out (by omega) (by show w.heap.size + 1 + 1 + 1 ≤ (W3.alloc _).heap.size; simp; omega))
       refine ⟨hp6.row hr5 (by omega), hp6.other (kz hg5 HBL.out (by omega) ((hbA.block _ (by omega)).trans (hp3.other (hp2.other HK.out.1 (by omega)) (by omega)))) (by omega), hp6.here, hp6.other (kz hg5 HBL.out (by omega) ((hbA.block _ (by omega)).trans hp3.here)) (by omega), hp6.below hB5 (by omega), ?_, fun h => ?_, fun _ => HY.out, ?_⟩
       · have := hg5.size; rw [hp6.size]; simp at this; omega
       · rw [HP1.out] at h; cases h
       · have := HLD.out; simp; omega)
     exact z0i
  ·obtain rfl : k = R.length := by omega
   have HDR : Hid (R.drop R.length = []) := zwe (List.drop_length ..)
   have hsz := HINV.out.size
   have k7 : wr.cell? ⟨w.heap.size + 1, 1, none⟩ = some (.slice ua D.length uc) := zwd HINV.out.out 1
   have k70 : wr.cell? ⟨w.heap.size + 1, 0, none⟩ = some (.int .i64 n) := zwd HINV.out.out 0
   have u0 : wr.cell? ⟨w.heap.size + 1 + 1, 0, none⟩ = some (.string ⟨cur.lo.toArray⟩) := zwd HINV.out.box 0
   have u1 : wr.cell? ⟨w.heap.size + 1 + 1, 1, none⟩ = some (.int .i64 cur.lk) := zwd HINV.out.box 1
   have u2 : wr.cell? ⟨w.heap.size + 1 + 1, 2, none⟩ = some (.string ⟨cur.hi.toArray⟩) := zwd HINV.out.box 2
   have u3 : wr.cell? ⟨w.heap.size + 1 + 1, 3, none⟩ = some (.int .i64 cur.hk) := zwd HINV.out.box 3
   have HLD := zwe HINV.out.len
   have HLT := zwe (GRow.lt HINV.out.row)
   have HBL := zwe (GRow.block HINV.out.row)
   rcases hp : V.par first R.length with _ | _
   ·have HO : Hid (V.ofC (V.start first) R = D) := zwe (by rw [HINV.out.shut hp, HDR.out]; exact List.append_nil _)
    go_wp2_with (first
      | (refine zi rfl 45 _ _ rfl w.heap.size #[.int .i64 0, .slice none 0 0] _ HINV.out.res rfl #[.int .i64 n, .slice ua D.length uc] rfl rfl (by kernel_rfl) (zt _ _ _ _) ?_; intro W2 hp2; have z0 : W2.cell? ⟨w.heap.size, 0, none⟩ = some (.int .i64 n) := zwd hp2.here 0; have z1 : W2.cell? ⟨w.heap.size, 1, none⟩ = some (.slice ua D.length uc) := zwd hp2.here 1)
      | fail)
    have HB : Hid (Below w.heap.size w W2) := zwe (hp2.below HINV.out.below (zwg _))
    have HIV : Hid (Itvs W2 (.slice ua D.length uc) (V.ofC (V.start first) R)) := zwe (by rw [HO.out]; exact zgf.itvs (hp2.row HINV.out.row (by omega)))
    have HOW : Hid (∀ c, (Value.slice ua D.length uc).ownBlock = some c -> w.heap.size ≤ c) := zwe (fun c hc => by have := HBL.out c hc; omega)
    clear hp2
    exact bodyPost_ret (v := .agg #[.int .i64 n, .slice ua D.length uc]) (by simp [results, Tryz.results169, go_sem, z0, z1]) rfl ⟨_, rfl, HIV.out, HOW.out, HB.out⟩
   ·obtain ⟨a, rfl, hof⟩ := HINV.out.isOpen hp
    have HO : Hid (V.ofC (V.start first) R = D ++ [V.mkI a none]) := zwe (by rw [hof, HDR.out]; rfl)
    clear hof
    go_wp2_with (first
      | (refine zl ws (by decide) zcn zey (by decide) rfl _ _ 43 rfl Tryz.underlying43 (w.heap.size + 1 + 1 + 1) (.slice ua D.length uc) D rfl (GRow.below HINV.out.row ((zwh _ wr).alloc (zwg _) _)) wr.heap.size (V.mkI a none) rfl (fun j u hu => by rw [World.cell?_alloc_new]; simpa [itvE] using hu) (by have := HLD.out; omega) (by simp; omega) ?_; intro v5 W5 hr5 hg5; have HBA := zwe ((zwh wr.heap.size wr).alloc (zwg _) (.cells (itvC (V.mkI a none)) 82)); have g6 := kz hg5 HBL.out (by omega) ((HBA.out.block _ (by omega)).trans HINV.out.res); have g7 := kz hg5 HBL.out (by omega) ((HBA.out.block _ (by omega)).trans HINV.out.out))
      | (refine zan rfl 43 _ _ rfl (w.heap.size + 1) 1 #[.int .i64 n, .slice ua D.length uc] _ g7 (by simp) rfl v5 rfl zd5 (by obtain ⟨_, _, e⟩ := GRow.slice hr5; rw [e]; rfl) ?_; intro W6 hp6; have z70 : W6.cell? ⟨w.heap.size + 1, 0, none⟩ = some (.int .i64 n) := zwd hp6.here 0; have z71 : W6.cell? ⟨w.heap.size + 1, 1, none⟩ = some v5 := zwd hp6.here 1)
      | (refine zi rfl 45 _ _ rfl w.heap.size #[.int .i64 0, .slice none 0 0] _ (hp6.other g6 (by omega)) rfl #[.int .i64 n, v5] rfl rfl (by kernel_rfl) (by obtain ⟨_, _, e⟩ := GRow.slice hr5; rw [e]; exact zt _ _ _ _) ?_; intro W7 hp7; have z0 : W7.cell? ⟨w.heap.size, 0, none⟩ = some (.int .i64 n) := zwd hp7.here 0; have z1 : W7.cell? ⟨w.heap.size, 1, none⟩ = some v5 := zwd hp7.here 1)
      | fail)
    have HB : Hid (Below w.heap.size w W7) := zwe (hp7.below (hp6.below ((HINV.out.below.trans (HBA.out.mono HINV.out.below.size)).trans (zk hg5 HBL.out (by omega) (by show w.heap.size + 1 + 1 + 1 ≤ (wr.alloc _).heap.size; simp; omega))) (by omega)) (zwg _))
    have HIV : Hid (Itvs W7 v5 (V.ofC (V.start first) R)) := zwe (by rw [HO.out]; exact zgf.itvs (hp7.row (hp6.row hr5 (by omega)) (by omega)))
    have HOW : Hid (∀ c, v5.ownBlock = some c -> w.heap.size ≤ c) := zwe (fun c hc => by have := GRow.block hr5 c hc; omega)
    clear hp7 hp6 hr5 hg5 g6 g7
    exact bodyPost_ret (v := .agg #[.int .i64 n, v5]) (by simp [results, Tryz.results169, go_sem, z0, z1]) rfl ⟨_, rfl, HIV.out, HOW.out, HB.out⟩
end Go.Proofs.YtcfbkcapbbhmpaaGreatDoor

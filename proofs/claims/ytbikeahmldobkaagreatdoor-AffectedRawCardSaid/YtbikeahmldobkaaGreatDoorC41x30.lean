/-
  Lemmas for the law.
-/
import Derived.Test.YtbikeahmldobkaaGreatDoorC41x24
import Derived.Test.YtbikeahmldobkaaGreatDoorC41x28
set_option linter.all false
set_option maxRecDepth 100000
set_option maxHeartbeats 3200000
namespace Go.Proofs.YtbikeahmldobkaaGreatDoor
open Go.RowKit
theorem zmo {W0 wa wq : World} (hba : Below W0.drew.heap.size W0.drew wa) (hbq : Below wa.heap.size wa wq) : Below W0.heap.size W0 wq :=
 ((zpd W0.heap.size W0).drew).trans (Below.trans (show Below W0.heap.size W0.drew wa from hba) (hbq.mono hba.size))
def hasF (n : Int) (v : V.Bs) (x : V.Itv) : Bool := (decide (x.lk = 0) || decide (V.cutC n x.low (v, false) ≤ 0)) && (decide (x.hk = 0) || decide (0 ≤ V.cutC n x.high (v, true)))
theorem zkz {α : Type} {p : α -> Bool} {l : List α} {k : Nat} (h : (l.take k).any p = false) (hk : k < l.length) (hb : p l[k] = false) : (l.take (k + 1)).any p = false := by
 rw [List.take_succ_eq_append_getElem hk, List.any_append, h]
 simpa using hb
theorem znj {α : Type} {p : α -> Bool} {l : List α} {k : Nat} (hk : k < l.length) (hb : p l[k] = true) : l.any p = true :=
 List.any_eq_true.2 ⟨l[k], List.getElem_mem hk, hb⟩
theorem zps {P : Prop} (h : P := by
 have HY := zpa (HYES.out (by rw [HXF2.out, HPT.out, HQT.out]; rfl))
 go_wp2
 go_roundw
 case rel => exact ⟨k + 1, by omega, by go_num, HY.out, HB7.out⟩
 case measure => simp [intOf]; omega) : P := h
theorem zpx {P : Prop} (h : P := by
 have HR : Hid (V.zr n l s = true) := zpa (by rw [HF2.out]; exact HNO.out (by rw [HXF2.out, HPT.out, HQT.out]; rfl))
 go_wp2
 go_ret
 exact ⟨zf HR.out.symm, HB3.out.trans (HB7.out.mono HB3.out.size)⟩) : P := h
theorem zrq {P : Prop} (h : P := by
 have HR : Hid (V.zr n l s = false) := zpa (by rw [HF.out, HOK.out, hva]; rfl)
 clear hva
 go_wp2
 go_ret
 exact ⟨zf HR.out.symm, HB2.out⟩) : P := h
theorem ze6 (n : Int) (v : Value) (l : List V.Itv) (s : V.Bs) (w : World) (hm : zm w) (hv : Itvs w v l) (hs : Lens l) (hl : l.length ≤ maxLen) (hsl : s.length ≤ maxLen) :
  Calls Tryz.prog 80 #[setV n v, .string ⟨s.toArray⟩] w fun e w' => e = .returned (.bool (V.zr n l s)) /\ Below w.heap.size w w' := by
 have HV := zpa hv
 obtain ⟨va, vc, rfl⟩ := hv.slice
 have HL := zpa hl
 have HSL := zpa (show (ByteArray.mk s.toArray).size ≤ maxLen by simpa [ByteArray.size] using hsl)
 unfold maxLen at hl
 have HS := zpa hs
 have HF : Hid (V.zr n l s = (V.okR n l && (V.valid n s && l.any (hasF n s)))) := zpa rfl
 have hb0 : Below w.heap.size w (w.alloc (.cells #[.int .i64 n, .slice va l.length vc] 68)) := (zpd _ w).alloc (zpc _) _
 have HB0 := zpa hb0
 have HM := zpa (hm.below hb0)
 have c0 : (w.alloc (.cells #[.int .i64 n, .slice va l.length vc] 68)).cell? ⟨w.heap.size, 0, none⟩ = some (.int .i64 n) := by simp [zj]
 have c1 : (w.alloc (.cells #[.int .i64 n, .slice va l.length vc] 68)).cell? ⟨w.heap.size, 1, none⟩ = some (.slice va l.length vc) := by simp [zj]
 have hz0 : w.heap.size < (w.alloc (.cells #[.int .i64 n, .slice va l.length vc] 68)).heap.size := by simp
 clear hv hs hb0 hm hsl
 unfold setV
 go_enter Tryz.func80, Tryz.ntmps80
 go_wp2_with fail
 generalize w.alloc (.cells #[.int .i64 n, .slice va l.length vc] 68) = w0 at *
 refine (zdv n (.slice va l.length vc) l w0 HM.out (HV.out.below HB0.out) HS.out HL.out).mono ?_
 rintro e w1 ⟨rfl, hb1⟩
 have HB1 := zpb HB0 hb1
 have HM1 := zpa (HM.out.below hb1)
 have d0 := ze hb1 c0
 have d1 := ze hb1 c1
 have hz1 : w.heap.size < w1.heap.size := Nat.lt_of_lt_of_le hz0 hb1.size
 clear hb1 c0 c1 hz0 HM
 rcases hok : V.okR n l with _ | _
 ·have HR : Hid (V.zr n l s = false) := zpa (by rw [HF.out, hok]; rfl)
  clear hok
  exact zrk
 ·have HOK := zpa hok
  clear hok
  go_wp2_with fail
  refine (zc8 n ⟨s.toArray⟩ w1 HM1.out HSL.out).mono ?_
  rintro e w2 ⟨rfl, hb2⟩
  rw [ja]
  have HB2 := zpb HB1 hb2
  have HM2 := zpa (HM1.out.below hb2)
  have e0 := ze hb2 d0
  have e1 := ze hb2 d1
  have hz2 : w.heap.size < w2.heap.size := Nat.lt_of_lt_of_le hz1 hb2.size
  clear hb2 d0 d1 hz1 HM1
  rcases hva : V.valid n s with _ | _
  ·exact zrq
  ·have HVA := zpa hva
   have HF2 : Hid (V.zr n l s = l.any (hasF n s)) := zpa (by rw [HF.out, HOK.out, hva]; rfl)
   clear hva
   have HOKS := zpa (V.ok_of HOK.out)
   obtain ⟨hbA, hcA, _, hzA⟩ := zhx w2 #[.string ⟨s.toArray⟩, .bool false] #[.string ⟨s.toArray⟩, .bool true] 152 152
   have p0 : ((w2.alloc (.cells #[.string ⟨s.toArray⟩, .bool false] 152)).alloc (.cells #[.string ⟨s.toArray⟩, .bool true] 152)).cell? ⟨w2.heap.size, 0, none⟩ = some (.string ⟨s.toArray⟩) := by simp [zj]
   have p1 : ((w2.alloc (.cells #[.string ⟨s.toArray⟩, .bool false] 152)).alloc (.cells #[.string ⟨s.toArray⟩, .bool true] 152)).cell? ⟨w2.heap.size, 1, none⟩ = some (.bool false) := by simp [zj]
   have q0 : ((w2.alloc (.cells #[.string ⟨s.toArray⟩, .bool false] 152)).alloc (.cells #[.string ⟨s.toArray⟩, .bool true] 152)).cell? ⟨w2.heap.size + 1, 0, none⟩ = some (.string ⟨s.toArray⟩) := by rw [hcA 0]; rfl
   have q1 : ((w2.alloc (.cells #[.string ⟨s.toArray⟩, .bool false] 152)).alloc (.cells #[.string ⟨s.toArray⟩, .bool true] 152)).cell? ⟨w2.heap.size + 1, 1, none⟩ = some (.bool true) := by rw [hcA 1]; rfl
   have f0 := ze hbA e0
   have f1 := ze hbA e1
   have HB3 := zpb HB2 hbA
   have HM3 := zpa (HM2.out.below hbA)
   have HPQ := zpa (And.intro f0 (And.intro p0 (And.intro p1 (And.intro q0 q1))))
   clear hcA p0 p1 q0 q1 f0 e0 hzA hbA HM2
   go_wp2
   clear f1 e1
   generalize (w2.alloc (.cells #[.string ⟨s.toArray⟩, .bool false] 152)).alloc (.cells #[.string ⟨s.toArray⟩, .bool true] 152) = W at *
   go_loopw [28] (fun iv wx => ∃ k : Nat, k ≤ l.length /\ iv = .int .i64 k /\ (l.take k).any (hasF n s) = false /\ Below W.heap.size W wx) (fun iv _ => l.length - (intOf iv).toNat)
   case atStart => exact ⟨0, Nat.zero_le _, rfl, rfl, zpd _ _⟩
   case round =>
    obtain ⟨k, hk, rfl, hz, hbx⟩ := hrel
    have HZ := zpa hz
    have HBX := zpa hbx
    have HBF := zpb HB3 hbx
    clear hz hbx
    by_cases hlt : k < l.length
    ·obtain ⟨b, off, rfl, hb0, hx⟩ := HV.out.at k hlt
     obtain ⟨h0, h1, h2, h3⟩ := hx.below hb0 HBF.out
     have hi1 : (0 : Int) ≤ (k : Int) := by omega
     have hi2 : (k : Int) < (l.length : Int) := by omega
     have HBK : Hid (V.zu n l[k] = true) := zpa (HOKS.out.bnd _ (List.getElem_mem hlt))
     have HYES := zpa (fun hb => zkz (p := hasF n s) HZ.out hlt hb)
     have HNO := zpa (fun hb => znj (p := hasF n s) hlt hb)
     clear hx
     generalize l[k] = x at *
     have HXF : Hid (hasF n s x = ((decide (x.lk = 0) || decide (V.cutC n x.low (s, false) ≤ 0)) && (decide (x.hk = 0) || decide (0 ≤ V.cutC n x.high (s, true))))) := zpa rfl
     have hbA : Below wr.heap.size wr (wr.alloc (.cells #[.string ⟨x.lo.toArray⟩, .int .i64 x.lk, .string ⟨x.hi.toArray⟩, .int .i64 x.hk] 83)) := (zpd _ wr).alloc (zpc _) _
     have HM1 := zpa ((HM3.out.below HBX.out).below hbA)
     have HBA := zpb HBX hbA
     have m0 := ze HBA.out HPQ.out.1
     have m1 := ze HBA.out HPQ.out.2.1
     have m2 := ze HBA.out HPQ.out.2.2.1
     have m3 := ze HBA.out HPQ.out.2.2.2.1
     have m4 := ze HBA.out HPQ.out.2.2.2.2
     have hx4 : ws (wr.alloc (.cells #[.string ⟨x.lo.toArray⟩, .int .i64 x.lk, .string ⟨x.hi.toArray⟩, .int .i64 x.hk] 83)) wr.heap.size 0 x := by
      refine ⟨?_, ?_, ?_, ?_⟩ <;> simp [zj]
     have HX4 := zpa hx4
     clear hbA hx4
     go_wp2_with fail
     generalize wr.alloc (.cells #[.string ⟨x.lo.toArray⟩, .int .i64 x.lk, .string ⟨x.hi.toArray⟩, .int .i64 x.hk] 83) = W1 at *
     obtain ⟨d0, d1, d2, d3⟩ := HX4.out
     rw [Nat.zero_add] at d1 d2 d3
     clear h0 h1 h2 h3
     obtain ⟨P, hP⟩ : ∃ P, P = (decide (x.lk = 0) || decide (V.cutC n x.low (s, false) ≤ 0)) := ⟨_, rfl⟩
     obtain ⟨Q, hQ⟩ : ∃ Q, Q = (decide (x.hk = 0) || decide (0 ≤ V.cutC n x.high (s, true))) := ⟨_, rfl⟩
     have HP := zpa hP
     have HQ := zpa hQ
     have HXF2 : Hid (hasF n s x = (P && Q)) := zpa (by rw [HXF.out, hP, hQ])
     clear hP hQ
     rcases hlk : (x.lk == 0) with _ | _
     ·have i1 : x.lk ≠ 0 := by simpa using hlk
      have hlow := V.yu HBK.out i1
      have HPT0 : Hid (P = decide (V.cutC n x.low (s, false) ≤ 0)) := zpa (by rw [HP.out, decide_eq_false i1]; rfl)
      clear i1
      go_region_held3 (fun W' => zm W' /\ W'.cell? ⟨wr.heap.size, 0, none⟩ = some (.string ⟨x.lo.toArray⟩) /\ W'.cell? ⟨wr.heap.size, 1, none⟩ = some (.int .i64 x.lk) /\ W'.cell? ⟨wr.heap.size, 2, none⟩ = some (.string ⟨x.hi.toArray⟩) /\ W'.cell? ⟨wr.heap.size, 3, none⟩ = some (.int .i64 x.hk) /\
        W'.cell? ⟨w.heap.size, 0, none⟩ = some (.int .i64 n) /\ W'.cell? ⟨w2.heap.size, 0, none⟩ = some (.string ⟨s.toArray⟩) /\ W'.cell? ⟨w2.heap.size, 1, none⟩ = some (.bool false))
       (first
         | (go_split_ands; exact ⟨zm.below (by assumption) hbq, zpg hbq, zpg hbq, zpg hbq, zpg hbq, zpg hbq, zpg hbq, zpg hbq⟩)
         | (exact ⟨HM1.out, d0, d1, d2, d3, m0, m1, m2⟩)
         | go_keep)
       (first
         | (go_at_call 113; refine (zbe x _).mono ?_; rintro e wq ⟨rfl, hbq⟩)
         | (go_at_call 112; refine (ju n x.low (s, false) _ (by first | assumption | exact And.left (by assumption)) HOKS.out.sch hlow HVA.out).mono ?_; rintro e wq ⟨rfl, hbq⟩))
      rename_i wa hba hS
      have HB5 := zpa (zmo hba hbq)
      rw [← HPT0.out]
      clear hba hbq hS HPT0
      generalize wq = W2 at *
      have k0 := ze HB5.out d0
      have k1 := ze HB5.out d1
      have k2 := ze HB5.out d2
      have k3 := ze HB5.out d3
      have n0 := ze HB5.out m0
      have n3 := ze HB5.out m3
      have n4 := ze HB5.out m4
      have HM5 := zpa (HM1.out.below HB5.out)
      have HB6 := zpa (HBA.out.trans (HB5.out.mono HBA.out.size))
      clear d0 d1 d2 d3 m0 m1 m2 m3 m4 HB5 HM1
      go_wp2_with fail
      rcases hhk : (x.hk == 0) with _ | _
      ·have i1 : x.hk ≠ 0 := by simpa using hhk
       have hhigh := V.jd HBK.out i1
       have HQT0 : Hid (Q = decide (0 ≤ V.cutC n x.high (s, true))) := zpa (by rw [HQ.out, decide_eq_false i1]; rfl)
       clear i1
       go_region_held3 (fun W' => zm W' /\ W'.cell? ⟨wr.heap.size, 0, none⟩ = some (.string ⟨x.lo.toArray⟩) /\ W'.cell? ⟨wr.heap.size, 1, none⟩ = some (.int .i64 x.lk) /\ W'.cell? ⟨wr.heap.size, 2, none⟩ = some (.string ⟨x.hi.toArray⟩) /\ W'.cell? ⟨wr.heap.size, 3, none⟩ = some (.int .i64 x.hk) /\
         W'.cell? ⟨w.heap.size, 0, none⟩ = some (.int .i64 n) /\ W'.cell? ⟨w2.heap.size + 1, 0, none⟩ = some (.string ⟨s.toArray⟩) /\ W'.cell? ⟨w2.heap.size + 1, 1, none⟩ = some (.bool true))
        (first
          | (go_split_ands; exact ⟨zm.below (by assumption) hbq, zpg hbq, zpg hbq, zpg hbq, zpg hbq, zpg hbq, zpg hbq, zpg hbq⟩)
          | (exact ⟨HM5.out, k0, k1, k2, k3, n0, n3, n4⟩)
          | go_keep)
        (first
          | (go_at_call 114; refine (yx x _).mono ?_; rintro e wq ⟨rfl, hbq⟩)
          | (go_at_call 112; refine (ju n x.high (s, true) _ (by first | assumption | exact And.left (by assumption)) HOKS.out.sch hhigh HVA.out).mono ?_; rintro e wq ⟨rfl, hbq⟩))
       rename_i wa hba hS
       have hb7 := zmo hba hbq
       have HB7 := zpb HB6 hb7
       rw [← HQT0.out]
       clear hb7 hba hbq hS k0 k1 k2 k3 n0 n3 n4 HQT0
       generalize wq = W3 at *
       rcases hpv : P with _ | _
       ·have HPT := zpa hpv
        clear hpv
        rcases hqv : Q with _ | _
        ·have HQT := zpa hqv
         clear hqv
         exact zps
        ·have HQT := zpa hqv
         clear hqv
         exact zps
       ·have HPT := zpa hpv
        clear hpv
        rcases hqv : Q with _ | _
        ·have HQT := zpa hqv
         clear hqv
         exact zps
        ·have HQT := zpa hqv
         clear hqv
         exact zpx
      ·have HQT : Hid (Q = true) := zpa (by rw [HQ.out, decide_eq_true (eq_of_beq hhk)]; rfl)
       go_quiet (fail)
       have HB7 := zpa (below_drewN HB6.out nq)
       generalize W2.drewN nq = W3 at *
       clear k0 k1 k2 k3 n0 n3 n4
       rcases hpv : P with _ | _
       ·have HPT := zpa hpv
        clear hpv
        exact zps
       ·have HPT := zpa hpv
        clear hpv
        exact zpx
     ·have HPT : Hid (P = true) := zpa (by rw [HP.out, decide_eq_true (eq_of_beq hlk)]; rfl)
      go_quiet (fail)
      have HB5 := zpa (below_drewN (zpd W1.heap.size W1) nq)
      generalize W1.drewN nq = W2 at *
      have k0 := ze HB5.out d0
      have k1 := ze HB5.out d1
      have k2 := ze HB5.out d2
      have k3 := ze HB5.out d3
      have n0 := ze HB5.out m0
      have n3 := ze HB5.out m3
      have n4 := ze HB5.out m4
      have HM5 := zpa (HM1.out.below HB5.out)
      have HB6 := zpa (HBA.out.trans (HB5.out.mono HBA.out.size))
      clear d0 d1 d2 d3 m0 m1 m2 m3 m4 HB5 HM1
      go_wp2_with fail
      rcases hhk : (x.hk == 0) with _ | _
      ·have i1 : x.hk ≠ 0 := by simpa using hhk
       have hhigh := V.jd HBK.out i1
       have HQT0 : Hid (Q = decide (0 ≤ V.cutC n x.high (s, true))) := zpa (by rw [HQ.out, decide_eq_false i1]; rfl)
       clear i1
       go_region_held3 (fun W' => zm W' /\ W'.cell? ⟨wr.heap.size, 0, none⟩ = some (.string ⟨x.lo.toArray⟩) /\ W'.cell? ⟨wr.heap.size, 1, none⟩ = some (.int .i64 x.lk) /\ W'.cell? ⟨wr.heap.size, 2, none⟩ = some (.string ⟨x.hi.toArray⟩) /\ W'.cell? ⟨wr.heap.size, 3, none⟩ = some (.int .i64 x.hk) /\
         W'.cell? ⟨w.heap.size, 0, none⟩ = some (.int .i64 n) /\ W'.cell? ⟨w2.heap.size + 1, 0, none⟩ = some (.string ⟨s.toArray⟩) /\ W'.cell? ⟨w2.heap.size + 1, 1, none⟩ = some (.bool true))
        (first
          | (go_split_ands; exact ⟨zm.below (by assumption) hbq, zpg hbq, zpg hbq, zpg hbq, zpg hbq, zpg hbq, zpg hbq, zpg hbq⟩)
          | (exact ⟨HM5.out, k0, k1, k2, k3, n0, n3, n4⟩)
          | go_keep)
        (first
          | (go_at_call 114; refine (yx x _).mono ?_; rintro e wq ⟨rfl, hbq⟩)
          | (go_at_call 112; refine (ju n x.high (s, true) _ (by first | assumption | exact And.left (by assumption)) HOKS.out.sch hhigh HVA.out).mono ?_; rintro e wq ⟨rfl, hbq⟩))
       rename_i wa hba hS
       have hb7 := zmo hba hbq
       have HB7 := zpb HB6 hb7
       rw [← HQT0.out]
       clear hb7 hba hbq hS k0 k1 k2 k3 n0 n3 n4 HQT0
       generalize wq = W3 at *
       rcases hqv : Q with _ | _
       ·have HQT := zpa hqv
        clear hqv
        exact zps
       ·have HQT := zpa hqv
        clear hqv
        exact zpx
      ·have HQT : Hid (Q = true) := zpa (by rw [HQ.out, decide_eq_true (eq_of_beq hhk)]; rfl)
       go_quiet (fail)
       have HB7 := zpa (below_drewN HB6.out nq)
       generalize W2.drewN nq = W3 at *
       clear k0 k1 k2 k3 n0 n3 n4
       exact zpx
    ·obtain rfl : k = l.length := by omega
     have HR : Hid (V.zr n l s = false) := zpa (by have := HZ.out; rw [List.take_length] at this; rw [HF2.out, this])
     go_wp2
     go_ret
     exact ⟨zf HR.out.symm, HBF.out⟩
namespace V
def kw (n : Int) (s : Bs) (a : Aff) : Bool := decide (a.sch = n) && decide (a.name = s)
def covP (x : Adv) (n : Int) (s v : Bs) : Bool := match x.aff.find? (kw n s) with
 | none => false
 | some a => zr a.rs a.its v && qf x
theorem znk {p : Aff -> Bool} : ∀ {l : List Aff} {k : Nat} (hk : k < l.length), (∀ j (h : j < l.length), j < k -> p l[j] = false) -> p l[k] = true -> l.find? p = some l[k]
 | a :: l, 0, _, _, h => by simp at h; simp [h]
 | a :: l, k + 1, hk, hn, h => by
  have h0 := hn 0 (by simp) (by omega)
  simp only [List.getElem_cons_zero] at h0
  rw [List.find?_cons_of_neg (by rw [h0]; simp)]
  simp only [List.getElem_cons_succ] at h ⊢
  exact znk (by simpa using hk) (fun j hj hjk => by have := hn (j + 1) (by simpa using hj) (by omega); simpa using this) h
theorem find_no {p : Aff -> Bool} {l : List Aff} (h : ∀ j (hj : j < l.length), p l[j] = false) : l.find? p = none := by
 rw [List.find?_eq_none]
 intro a ha
 obtain ⟨j, hj, rfl⟩ := List.mem_iff_getElem.1 ha
 rw [h j hj]; simp
end V
theorem zpq {P : Prop} (h : P := by
 have hcase : (a.sch == n) = false /\ ¬ a.sch = n ∨ (a.sch == n) = true /\ a.sch = n /\ (a.name == s) = false /\ ¬ a.name = s := by
  rw [HPK.out, Bool.and_eq_false_iff, decide_eq_false_iff_not, decide_eq_false_iff_not] at hpf
  by_cases h1 : a.sch = n
  ·rcases hpf with h | h
   ·exact absurd h1 h
   ·exact .inr ⟨by simpa using h1, h1, by rw [zpe]; exact h, h⟩
  ·exact .inl ⟨by rw [zpe]; exact h1, h1⟩
 clear hp hpf HNX HAT HPK
 rcases hcase with ⟨q1, q2⟩ | ⟨q1, q2, q3, q4⟩
 ·go_wp2
  go_roundw
  case rel => exact ⟨k + 1, by omega, by go_num, HNY.out, HB2.out⟩
  case measure => simp [intOf]; omega
 ·subst q2
  go_wp2
  go_roundw
  case rel => exact ⟨k + 1, by omega, by go_num, HNY.out, HB2.out⟩
  case measure => simp [intOf]; omega) : P := h
theorem zbg (x : V.Adv) (v : Value) (n : Int) (s ver : V.Bs) (w : World) (hm : zm w) (hv : Affs w v x.aff) (hid : x.id.length ≤ maxLen) (hl : x.aff.length ≤ maxLen) (hs : ver.length ≤ maxLen) :
  Calls Tryz.prog 48 #[advV x v, .int .i64 n, .string ⟨s.toArray⟩, .string ⟨ver.toArray⟩] w fun e w' => e = .returned (.bool (V.covP x n s ver)) /\ Below w.heap.size w w' := by
 obtain ⟨pa, pc, rfl⟩ := hv.slice
 obtain ⟨hb, c0, c1, c2, c3⟩ := zen x (.slice pa x.aff.length pc) w
 have HM := zpa (hm.below hb)
 have HV := zpa (hv.below hb)
 have HB := zpa hb
 have HI := zpa (And.intro hid (And.intro hl hs))
 unfold maxLen at hl
 clear hm hv hid hb hs
 unfold advV
 go_enter Tryz.func48, Tryz.ntmps48
 go_wp2_with fail
 generalize w.alloc (.cells #[.string ⟨x.id.toArray⟩, .int .i64 x.rev, .int .i64 x.sev, .slice pa x.aff.length pc] 54) = w0 at *
 go_loopw [14] (fun iv W => ∃ k : Nat, k ≤ x.aff.length /\ iv = .int .i64 k /\ (∀ j (h : j < x.aff.length), j < k -> V.kw n s x.aff[j] = false) /\ Below w0.heap.size w0 W) (fun iv _ => x.aff.length - (intOf iv).toNat)
 case atStart => exact ⟨0, Nat.zero_le _, rfl, (fun j _ h => absurd h (Nat.not_lt_zero _)), zpd _ _⟩
 case round =>
  obtain ⟨k, hk, rfl, hno, hbr⟩ := hrel
  have HNO := zpa hno
  have HBR := zpa hbr
  clear hno hbr
  by_cases hlt : k < x.aff.length
  ·obtain ⟨hwf, b, off, ua, uc, rfl, hblt, ha⟩ := HV.out.at k hlt
   have HVR := zpa (HV.out.below HBR.out)
   have HW := zpa hwf
   have HA := zpa (ha.below HBR.out)
   have HAT := zpa (V.znk (p := V.kw n s) hlt HNO.out)
   have HNX : Hid (V.kw n s x.aff[k] = false -> ∀ j (h : j < x.aff.length), j < k + 1 -> V.kw n s x.aff[j] = false) := zpa (fun hf j h hj => by
     by_cases e : j = k
     · subst e; exact hf
     · exact HNO.out j h (by omega))
   generalize x.aff[k] = a at *
   have HPK : Hid (V.kw n s a = (decide (a.sch = n) && decide (a.name = s))) := zpa rfl
   have e0 := HA.out.c0
   have e1 := HA.out.c1
   have e2 := HA.out.c2
   have e3 := HA.out.c3
   have i1 : (0 : Int) ≤ (k : Int) := by omega
   have i2 : (k : Int) < (x.aff.length : Int) := by omega
   have wr1 : IntKind.i64.wrap ((k : Int) + 1) = (k : Int) + 1 := IntWalk.i64_in _ (by omega)
   obtain ⟨hb2, d0, d1, d2, d3⟩ := zcg a (.slice ua a.its.length uc) wr
   have HIT := zpa (HA.out.its.below hb2)
   have HB2 := zpb HBR hb2
   have HM2 := zpa (HM.out.below HB2.out)
   have HV2 := zpa (HVR.out.below hb2)
   have b0 := zg HB2.out c0
   have b1 := zg HB2.out c1
   have b2 := zg HB2.out c2
   have b3 := zg HB2.out c3
   clear hb2 hwf ha HA HVR
   by_cases hp : V.kw n s a = true
   ·have HFI : Hid (V.covP x n s ver = (V.zr a.rs a.its ver && V.qf x)) := zpa (by unfold V.covP; rw [HAT.out hp])
    rw [HPK.out, Bool.and_eq_true, decide_eq_true_eq, decide_eq_true_eq] at hp
    have q1 : (a.sch == n) = true := by simpa using hp.1
    have q2 : (a.name == s) = true := by simpa using hp.2
    have q3 := hp.1
    have q4 := hp.2
    clear hp HNX HAT HPK
    subst q3
    subst q4
    go_wp2_with fail
    generalize wr.alloc (.cells #[.int .i64 a.sch, .string ⟨a.name.toArray⟩, .int .i64 a.rs, .slice ua a.its.length uc] 70) = w2 at *
    refine (ze6 a.rs (.slice ua a.its.length uc) a.its ver w2 HM2.out HIT.out HW.out.lens HW.out.len HI.out.2.2).mono ?_
    rintro e w3 ⟨rfl, hb3⟩
    have HB3 := zpb HB2 hb3
    have HM3 := zpa (HM2.out.below hb3)
    have HV3 := zpa (HV2.out.below hb3)
    replace b0 := zg hb3 b0
    replace b1 := zg hb3 b1
    replace b2 := zg hb3 b2
    replace b3 := zg hb3 b3
    clear hb3
    rcases hcl : V.zr a.rs a.its ver with _ | _
    ·have HR : Hid (V.covP x a.sch a.name ver = false) := zpa (by rw [HFI.out, hcl]; rfl)
     clear hcl
     go_wp2
     go_ret
     exact ⟨zf HR.out.symm, HB.out.trans (HB3.out.mono HB.out.size)⟩
    ·have HR : Hid (V.covP x a.sch a.name ver = V.qf x) := zpa (by rw [HFI.out, hcl]; rfl)
     clear hcl
     go_wp2_with fail
     refine (zih x (.slice (some ⟨b, off, none⟩) x.aff.length pc) w3 HM3.out HV3.out HI.out.1 HI.out.2.1).mono ?_
     rintro e w4 ⟨rfl, hb4⟩
     have HB4 := zpb HB3 hb4
     clear hb4
     go_wp2
     go_ret
     exact ⟨zf HR.out.symm, HB.out.trans (HB4.out.mono HB.out.size)⟩
   ·have hpf : V.kw n s a = false := by simpa using hp
    have HNY := zpa (HNX.out hpf)
    exact zpq
  ·obtain rfl : k = x.aff.length := by omega
   have HR : Hid (V.covP x n s ver = false) := zpa (by unfold V.covP; rw [V.find_no (fun j hj => HNO.out j hj hj)])
   go_wp2
   go_ret
   exact ⟨zf HR.out.symm, HB.out.trans (HBR.out.mono HB.out.size)⟩
end Go.Proofs.YtbikeahmldobkaaGreatDoor

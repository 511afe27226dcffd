/-
  Lemmas for the law.
-/
import Derived.Test.YtbikeahmldobkaaGreatDoorC51x21
import Derived.Test.YtbikeahmldobkaaGreatDoorC51x24
import Derived.Test.YtbikeahmldobkaaGreatDoorC51x22
import Derived.Test.YtbikeahmldobkaaGreatDoorC51x03
set_option linter.all false
set_option maxRecDepth 100000
set_option maxHeartbeats 3200000
namespace Go.Proofs.YtbikeahmldobkaaGreatDoor
open Go.RowKit
theorem zrr {W0 wa wq : World} (g0 : Below W0.drew.heap.size W0.drew wa) (g1 : Below wa.heap.size wa wq) : Below W0.heap.size W0 wq :=
 ((zvb W0.heap.size W0).drew).trans (Below.trans (show Below W0.heap.size W0.drew wa from g0) (g1.mono g0.size))
def hasF (n : Int) (v : V.Bs) (x : V.Itv) : Bool := (decide (x.lk = 0) || decide (V.cutC n x.low (v, false) ≤ 0)) && (decide (x.hk = 0) || decide (0 ≤ V.cutC n x.high (v, true)))
theorem zpk {α : Type} {p : α -> Bool} {l : List α} {k : Nat} (h : (l.take k).any p = false) (hk : k < l.length) (hb : p l[k] = false) : (l.take (k + 1)).any p = false := by
 rw [List.take_succ_eq_append_getElem hk, List.any_append, h]
 simpa using hb
theorem zsx {α : Type} {p : α -> Bool} {l : List α} {k : Nat} (hk : k < l.length) (hb : p l[k] = true) : l.any p = true :=
 List.any_eq_true.2 ⟨l[k], List.getElem_mem hk, hb⟩
theorem zvu {P : Prop} (h : P := by
 have HY := zu8 (HYES.out (by rw [HXF2.out, HPT.out, HQT.out]; rfl))
 go_wp2
 go_roundw
 case rel => exact ⟨k + 1, by omega, by go_num, HY.out, HB7.out⟩
 case measure => simp [intOf]; omega) : P := h
theorem zvz {P : Prop} (h : P := by
 have HR : Hid (V.jy n l s = true) := zu8 (by rw [HF2.out]; exact HNO.out (by rw [HXF2.out, HPT.out, HQT.out]; rfl))
 go_wp2
 go_ret
 exact ⟨ze HR.out.symm, HB3.out.trans (HB7.out.mono HB3.out.size)⟩) : P := h
theorem ziq (n : Int) (v : Value) (l : List V.Itv) (s : V.Bs) (w : World) (hm : zj w) (hv : Itvs w v l) (hs : Lens l) (hl : l.length ≤ maxLen) (j2 : s.length ≤ maxLen) :
  Calls Tryz.prog 80 #[setV n v, .string ⟨s.toArray⟩] w fun e w' => e = .returned (.bool (V.jy n l s)) /\ Below w.heap.size w w' := by
 have HV := zu8 hv
 obtain ⟨va, vc, rfl⟩ := hv.slice
 have HL := zu8 hl
 have j9 := zu8 (show (ByteArray.mk s.toArray).size ≤ maxLen by simpa [ByteArray.size] using j2)
 unfold maxLen at hl
 have HS := zu8 hs
 have HF : Hid (V.jy n l s = (V.okR n l && (V.valid n s && l.any (hasF n s)))) := zu8 rfl
 have g8 : Below w.heap.size w (w.alloc (.cells #[.int .i64 n, .slice va l.length vc] 68)) := (zvb _ w).alloc (zva _) _
 have HB0 := zu8 g8
 have HM := zu8 (hm.below g8)
 have c0 : (w.alloc (.cells #[.int .i64 n, .slice va l.length vc] 68)).cell? ⟨w.heap.size, 0, none⟩ = some (.int .i64 n) := by simp [zg]
 have c1 : (w.alloc (.cells #[.int .i64 n, .slice va l.length vc] 68)).cell? ⟨w.heap.size, 1, none⟩ = some (.slice va l.length vc) := by simp [zg]
 have j3 : w.heap.size < (w.alloc (.cells #[.int .i64 n, .slice va l.length vc] 68)).heap.size := by simp
 clear hv hs g8 hm j2
 unfold setV
 go_enter Tryz.func80, Tryz.ntmps80
 go_wp2_with fail
 generalize w.alloc (.cells #[.int .i64 n, .slice va l.length vc] 68) = w0 at *
 refine (zhc n (.slice va l.length vc) l w0 HM.out (HV.out.below HB0.out) HS.out HL.out).mono ?_
 rintro e w1 ⟨rfl, hb1⟩
 have HB1 := zu9 HB0 hb1
 have g2 := zu8 (HM.out.below hb1)
 have d0 := zb hb1 c0
 have d1 := zb hb1 c1
 have j4 : w.heap.size < w1.heap.size := Nat.lt_of_lt_of_le j3 hb1.size
 clear hb1 c0 c1 j3 HM
 rcases hok : V.okR n l with _ | _
 ·have HR : Hid (V.jy n l s = false) := zu8 (by rw [HF.out, hok]; rfl)
  clear hok
  go_wp2
  go_ret
  exact ⟨ze HR.out.symm, HB1.out⟩
 ·have HOK := zu8 hok
  clear hok
  go_wp2_with fail
  refine (zgh n ⟨s.toArray⟩ w1 g2.out j9.out).mono ?_
  rintro e w2 ⟨rfl, hb2⟩
  rw [za5]
  have HB2 := zu9 HB1 hb2
  have j5 := zu8 (g2.out.below hb2)
  have e0 := zb hb2 d0
  have e1 := zb hb2 d1
  have k8 : w.heap.size < w2.heap.size := Nat.lt_of_lt_of_le j4 hb2.size
  clear hb2 d0 d1 j4 g2
  rcases g9 : V.valid n s with _ | _
  ·have HR : Hid (V.jy n l s = false) := zu8 (by rw [HF.out, HOK.out, g9]; rfl)
   clear g9
   go_wp2
   go_ret
   exact ⟨ze HR.out.symm, HB2.out⟩
  ·have h6 := zu8 g9
   have HF2 : Hid (V.jy n l s = l.any (hasF n s)) := zu8 (by rw [HF.out, HOK.out, g9]; rfl)
   clear g9
   have g6 := zu8 (V.zhi HOK.out)
   obtain ⟨hbA, h7, _, k4⟩ := zl2 w2 #[.string ⟨s.toArray⟩, .bool false] #[.string ⟨s.toArray⟩, .bool true] 152 152
   have p0 : ((w2.alloc (.cells #[.string ⟨s.toArray⟩, .bool false] 152)).alloc (.cells #[.string ⟨s.toArray⟩, .bool true] 152)).cell? ⟨w2.heap.size, 0, none⟩ = some (.string ⟨s.toArray⟩) := by simp [zg]
   have p1 : ((w2.alloc (.cells #[.string ⟨s.toArray⟩, .bool false] 152)).alloc (.cells #[.string ⟨s.toArray⟩, .bool true] 152)).cell? ⟨w2.heap.size, 1, none⟩ = some (.bool false) := by simp [zg]
   have q0 : ((w2.alloc (.cells #[.string ⟨s.toArray⟩, .bool false] 152)).alloc (.cells #[.string ⟨s.toArray⟩, .bool true] 152)).cell? ⟨w2.heap.size + 1, 0, none⟩ = some (.string ⟨s.toArray⟩) := by rw [h7 0]; rfl
   have q1 : ((w2.alloc (.cells #[.string ⟨s.toArray⟩, .bool false] 152)).alloc (.cells #[.string ⟨s.toArray⟩, .bool true] 152)).cell? ⟨w2.heap.size + 1, 1, none⟩ = some (.bool true) := by rw [h7 1]; rfl
   have f0 := zb hbA e0
   have f1 := zb hbA e1
   have HB3 := zu9 HB2 hbA
   have k5 := zu8 (j5.out.below hbA)
   have h4 := zu8 (And.intro f0 (And.intro p0 (And.intro p1 (And.intro q0 q1))))
   clear h7 p0 p1 q0 q1 f0 e0 k4 hbA j5
   go_wp2
   clear f1 e1
   generalize (w2.alloc (.cells #[.string ⟨s.toArray⟩, .bool false] 152)).alloc (.cells #[.string ⟨s.toArray⟩, .bool true] 152) = W at *
   go_loopw [28] (fun iv wx => ∃ k : Nat, k ≤ l.length /\ iv = .int .i64 k /\ (l.take k).any (hasF n s) = false /\ Below W.heap.size W wx) (fun iv _ => l.length - (intOf iv).toNat)
   case atStart => exact ⟨0, Nat.zero_le _, rfl, rfl, zvb _ _⟩
   case round =>
    obtain ⟨k, hk, rfl, hz, h8⟩ := hrel
    have HZ := zu8 hz
    have HBX := zu8 h8
    have HBF := zu9 HB3 h8
    clear hz h8
    by_cases hlt : k < l.length
    ·obtain ⟨b, off, rfl, g8, hx⟩ := HV.out.at k hlt
     obtain ⟨h0, h1, h2, h3⟩ := hx.below g8 HBF.out
     have k9 : (0 : Int) ≤ (k : Int) := by omega
     have q2 : (k : Int) < (l.length : Int) := by omega
     have h9 : Hid (V.zt n l[k] = true) := zu8 (g6.out.bnd _ (List.getElem_mem hlt))
     have HYES := zu8 (fun hb => zpk (p := hasF n s) HZ.out hlt hb)
     have HNO := zu8 (fun hb => zsx (p := hasF n s) hlt hb)
     clear hx
     generalize l[k] = x at *
     have k6 : Hid (hasF n s x = ((decide (x.lk = 0) || decide (V.cutC n x.low (s, false) ≤ 0)) && (decide (x.hk = 0) || decide (0 ≤ V.cutC n x.high (s, true))))) := zu8 rfl
     have hbA : Below wr.heap.size wr (wr.alloc (.cells #[.string ⟨x.lo.toArray⟩, .int .i64 x.lk, .string ⟨x.hi.toArray⟩, .int .i64 x.hk] 83)) := (zvb _ wr).alloc (zva _) _
     have g2 := zu8 ((k5.out.below HBX.out).below hbA)
     have g3 := zu9 HBX hbA
     have m0 := zb g3.out h4.out.1
     have m1 := zb g3.out h4.out.2.1
     have m2 := zb g3.out h4.out.2.2.1
     have m3 := zb g3.out h4.out.2.2.2.1
     have m4 := zb g3.out h4.out.2.2.2.2
     have j6 : zcv (wr.alloc (.cells #[.string ⟨x.lo.toArray⟩, .int .i64 x.lk, .string ⟨x.hi.toArray⟩, .int .i64 x.hk] 83)) wr.heap.size 0 x := by
      refine ⟨?_, ?_, ?_, ?_⟩ <;> simp [zg]
     have k7 := zu8 j6
     clear hbA j6
     go_wp2_with fail
     generalize wr.alloc (.cells #[.string ⟨x.lo.toArray⟩, .int .i64 x.lk, .string ⟨x.hi.toArray⟩, .int .i64 x.hk] 83) = W1 at *
     obtain ⟨d0, d1, d2, d3⟩ := k7.out
     rw [Nat.zero_add] at d1 d2 d3
     clear h0 h1 h2 h3
     obtain ⟨P, hP⟩ : ∃ P, P = (decide (x.lk = 0) || decide (V.cutC n x.low (s, false) ≤ 0)) := ⟨_, rfl⟩
     obtain ⟨Q, hQ⟩ : ∃ Q, Q = (decide (x.hk = 0) || decide (0 ≤ V.cutC n x.high (s, true))) := ⟨_, rfl⟩
     have HP := zu8 hP
     have HQ := zu8 hQ
     have HXF2 : Hid (hasF n s x = (P && Q)) := zu8 (by rw [k6.out, hP, hQ])
     clear hP hQ
     rcases j7 : (x.lk == 0) with _ | _
     ·have i1 : x.lk ≠ 0 := by simpa using j7
      have j8 := V.xz h9.out i1
      have j0 : Hid (P = decide (V.cutC n x.low (s, false) ≤ 0)) := zu8 (by rw [HP.out, decide_eq_false i1]; rfl)
      clear i1
      go_region_held3 (fun W' => zj W' /\ W'.cell? ⟨wr.heap.size, 0, none⟩ = some (.string ⟨x.lo.toArray⟩) /\ W'.cell? ⟨wr.heap.size, 1, none⟩ = some (.int .i64 x.lk) /\ W'.cell? ⟨wr.heap.size, 2, none⟩ = some (.string ⟨x.hi.toArray⟩) /\ W'.cell? ⟨wr.heap.size, 3, none⟩ = some (.int .i64 x.hk) /\
        W'.cell? ⟨w.heap.size, 0, none⟩ = some (.int .i64 n) /\ W'.cell? ⟨w2.heap.size, 0, none⟩ = some (.string ⟨s.toArray⟩) /\ W'.cell? ⟨w2.heap.size, 1, none⟩ = some (.bool false))
       (first
         | (go_split_ands; exact ⟨zj.below (by assumption) g0, zve g0, zve g0, zve g0, zve g0, zve g0, zve g0, zve g0⟩)
         | (exact ⟨g2.out, d0, d1, d2, d3, m0, m1, m2⟩)
         | go_keep)
       (first
         | (go_at_call 113; refine (zd6 x _).mono ?_; rintro e wq ⟨rfl, g0⟩)
         | (go_at_call 112; refine (xg n x.low (s, false) _ (by first | assumption | exact And.left (by assumption)) g6.out.sch j8 h6.out).mono ?_; rintro e wq ⟨rfl, g0⟩))
      rename_i wa hba hS
      have HB5 := zu8 (zrr hba g0)
      rw [← j0.out]
      clear hba g0 hS j0
      generalize wq = W2 at *
      have k0 := zb HB5.out d0
      have k1 := zb HB5.out d1
      have k2 := zb HB5.out d2
      have k3 := zb HB5.out d3
      have n0 := zb HB5.out m0
      have n3 := zb HB5.out m3
      have n4 := zb HB5.out m4
      have j1 := zu8 (g2.out.below HB5.out)
      have HB6 := zu8 (g3.out.trans (HB5.out.mono g3.out.size))
      clear d0 d1 d2 d3 m0 m1 m2 m3 m4 HB5 g2
      go_wp2_with fail
      rcases h5 : (x.hk == 0) with _ | _
      ·have i1 : x.hk ≠ 0 := by simpa using h5
       have g7 := V.jn h9.out i1
       have g5 : Hid (Q = decide (0 ≤ V.cutC n x.high (s, true))) := zu8 (by rw [HQ.out, decide_eq_false i1]; rfl)
       clear i1
       go_region_held3 (fun W' => zj W' /\ W'.cell? ⟨wr.heap.size, 0, none⟩ = some (.string ⟨x.lo.toArray⟩) /\ W'.cell? ⟨wr.heap.size, 1, none⟩ = some (.int .i64 x.lk) /\ W'.cell? ⟨wr.heap.size, 2, none⟩ = some (.string ⟨x.hi.toArray⟩) /\ W'.cell? ⟨wr.heap.size, 3, none⟩ = some (.int .i64 x.hk) /\
         W'.cell? ⟨w.heap.size, 0, none⟩ = some (.int .i64 n) /\ W'.cell? ⟨w2.heap.size + 1, 0, none⟩ = some (.string ⟨s.toArray⟩) /\ W'.cell? ⟨w2.heap.size + 1, 1, none⟩ = some (.bool true))
        (first
          | (go_split_ands; exact ⟨zj.below (by assumption) g0, zve g0, zve g0, zve g0, zve g0, zve g0, zve g0, zve g0⟩)
          | (exact ⟨j1.out, k0, k1, k2, k3, n0, n3, n4⟩)
          | go_keep)
        (first
          | (go_at_call 114; refine (zan x _).mono ?_; rintro e wq ⟨rfl, g0⟩)
          | (go_at_call 112; refine (xg n x.high (s, true) _ (by first | assumption | exact And.left (by assumption)) g6.out.sch g7 h6.out).mono ?_; rintro e wq ⟨rfl, g0⟩))
       rename_i wa hba hS
       have hb7 := zrr hba g0
       have HB7 := zu9 HB6 hb7
       rw [← g5.out]
       clear hb7 hba g0 hS k0 k1 k2 k3 n0 n3 n4 g5
       generalize wq = W3 at *
       rcases g4 : P with _ | _
       ·have HPT := zu8 g4
        clear g4
        rcases g1 : Q with _ | _
        ·have HQT := zu8 g1
         clear g1
         exact zvu
        ·have HQT := zu8 g1
         clear g1
         exact zvu
       ·have HPT := zu8 g4
        clear g4
        rcases g1 : Q with _ | _
        ·have HQT := zu8 g1
         clear g1
         exact zvu
        ·have HQT := zu8 g1
         clear g1
         exact zvz
      ·have HQT : Hid (Q = true) := zu8 (by rw [HQ.out, decide_eq_true (eq_of_beq h5)]; rfl)
       go_quiet (fail)
       have HB7 := zu8 (below_drewN HB6.out nq)
       generalize W2.drewN nq = W3 at *
       clear k0 k1 k2 k3 n0 n3 n4
       rcases g4 : P with _ | _
       ·have HPT := zu8 g4
        clear g4
        exact zvu
       ·have HPT := zu8 g4
        clear g4
        exact zvz
     ·have HPT : Hid (P = true) := zu8 (by rw [HP.out, decide_eq_true (eq_of_beq j7)]; rfl)
      go_quiet (fail)
      have HB5 := zu8 (below_drewN (zvb W1.heap.size W1) nq)
      generalize W1.drewN nq = W2 at *
      have k0 := zb HB5.out d0
      have k1 := zb HB5.out d1
      have k2 := zb HB5.out d2
      have k3 := zb HB5.out d3
      have n0 := zb HB5.out m0
      have n3 := zb HB5.out m3
      have n4 := zb HB5.out m4
      have j1 := zu8 (g2.out.below HB5.out)
      have HB6 := zu8 (g3.out.trans (HB5.out.mono g3.out.size))
      clear d0 d1 d2 d3 m0 m1 m2 m3 m4 HB5 g2
      go_wp2_with fail
      rcases h5 : (x.hk == 0) with _ | _
      ·have i1 : x.hk ≠ 0 := by simpa using h5
       have g7 := V.jn h9.out i1
       have g5 : Hid (Q = decide (0 ≤ V.cutC n x.high (s, true))) := zu8 (by rw [HQ.out, decide_eq_false i1]; rfl)
       clear i1
       go_region_held3 (fun W' => zj W' /\ W'.cell? ⟨wr.heap.size, 0, none⟩ = some (.string ⟨x.lo.toArray⟩) /\ W'.cell? ⟨wr.heap.size, 1, none⟩ = some (.int .i64 x.lk) /\ W'.cell? ⟨wr.heap.size, 2, none⟩ = some (.string ⟨x.hi.toArray⟩) /\ W'.cell? ⟨wr.heap.size, 3, none⟩ = some (.int .i64 x.hk) /\
         W'.cell? ⟨w.heap.size, 0, none⟩ = some (.int .i64 n) /\ W'.cell? ⟨w2.heap.size + 1, 0, none⟩ = some (.string ⟨s.toArray⟩) /\ W'.cell? ⟨w2.heap.size + 1, 1, none⟩ = some (.bool true))
        (first
          | (go_split_ands; exact ⟨zj.below (by assumption) g0, zve g0, zve g0, zve g0, zve g0, zve g0, zve g0, zve g0⟩)
          | (exact ⟨j1.out, k0, k1, k2, k3, n0, n3, n4⟩)
          | go_keep)
        (first
          | (go_at_call 114; refine (zan x _).mono ?_; rintro e wq ⟨rfl, g0⟩)
          | (go_at_call 112; refine (xg n x.high (s, true) _ (by first | assumption | exact And.left (by assumption)) g6.out.sch g7 h6.out).mono ?_; rintro e wq ⟨rfl, g0⟩))
       rename_i wa hba hS
       have hb7 := zrr hba g0
       have HB7 := zu9 HB6 hb7
       rw [← g5.out]
       clear hb7 hba g0 hS k0 k1 k2 k3 n0 n3 n4 g5
       generalize wq = W3 at *
       rcases g1 : Q with _ | _
       ·have HQT := zu8 g1
        clear g1
        exact zvu
       ·have HQT := zu8 g1
        clear g1
        exact zvz
      ·have HQT : Hid (Q = true) := zu8 (by rw [HQ.out, decide_eq_true (eq_of_beq h5)]; rfl)
       go_quiet (fail)
       have HB7 := zu8 (below_drewN HB6.out nq)
       generalize W2.drewN nq = W3 at *
       clear k0 k1 k2 k3 n0 n3 n4
       exact zvz
    ·obtain rfl : k = l.length := by omega
     have HR : Hid (V.jy n l s = false) := zu8 (by have := HZ.out; rw [List.take_length] at this; rw [HF2.out, this])
     go_wp2
     go_ret
     exact ⟨ze HR.out.symm, HBF.out⟩
namespace V
def zee (n : Int) (s : Bs) (a : Aff) : Bool := decide (a.sch = n) && decide (a.name = s)
def covP (x : Adv) (n : Int) (s v : Bs) : Bool := match x.aff.find? (zee n s) with
 | none => false
 | some a => jy a.rs a.its v && xk x
theorem zs0 {p : Aff -> Bool} : ∀ {l : List Aff} {k : Nat} (hk : k < l.length), (∀ j (h : j < l.length), j < k -> p l[j] = false) -> p l[k] = true -> l.find? p = some l[k]
 | a :: l, 0, _, _, h => by simp at h; simp [h]
 | a :: l, k + 1, hk, hn, h => by
  have h0 := hn 0 (by simp) (by omega)
  simp only [List.getElem_cons_zero] at h0
  rw [List.find?_cons_of_neg (by rw [h0]; simp)]
  simp only [List.getElem_cons_succ] at h ⊢
  exact zs0 (by simpa using hk) (fun j hj g0 => by have := hn (j + 1) (by simpa using hj) (by omega); simpa using this) h
theorem find_no {p : Aff -> Bool} {l : List Aff} (h : ∀ j (hj : j < l.length), p l[j] = false) : l.find? p = none := by
 rw [List.find?_eq_none]
 intro a ha
 obtain ⟨j, hj, rfl⟩ := List.mem_iff_getElem.1 ha
 rw [h j hj]; simp
end V
theorem zyf {P : Prop} (h : P := by
 go_wp2
 go_roundw
 case rel => exact ⟨k + 1, by omega, by go_num, HNY.out, HB2.out⟩
 case measure => simp [intOf]; omega) : P := h
theorem zd9 (x : V.Adv) (v : Value) (n : Int) (s ver : V.Bs) (w : World) (hm : zj w) (hv : Affs w v x.aff) (g7 : x.id.length ≤ maxLen) (hl : x.aff.length ≤ maxLen) (hs : ver.length ≤ maxLen) :
  Calls Tryz.prog 48 #[advV x v, .int .i64 n, .string ⟨s.toArray⟩, .string ⟨ver.toArray⟩] w fun e w' => e = .returned (.bool (V.covP x n s ver)) /\ Below w.heap.size w w' := by
 obtain ⟨pa, pc, rfl⟩ := hv.slice
 obtain ⟨hb, c0, c1, c2, c3⟩ := ztg x (.slice pa x.aff.length pc) w
 have HM := zu8 (hm.below hb)
 have HV := zu8 (hv.below hb)
 have HB := zu8 hb
 have HI := zu8 (And.intro g7 (And.intro hl hs))
 unfold maxLen at hl
 clear hm hv g7 hb hs
 unfold advV
 go_enter Tryz.func48, Tryz.ntmps48
 go_wp2_with fail
 generalize w.alloc (.cells #[.string ⟨x.id.toArray⟩, .int .i64 x.rev, .int .i64 x.sev, .slice pa x.aff.length pc] 54) = w0 at *
 go_loopw [14] (fun iv W => ∃ k : Nat, k ≤ x.aff.length /\ iv = .int .i64 k /\ (∀ j (h : j < x.aff.length), j < k -> V.zee n s x.aff[j] = false) /\ Below w0.heap.size w0 W) (fun iv _ => x.aff.length - (intOf iv).toNat)
 case atStart => exact ⟨0, Nat.zero_le _, rfl, (fun j _ h => absurd h (Nat.not_lt_zero _)), zvb _ _⟩
 case round =>
  obtain ⟨k, hk, rfl, g8, g9⟩ := hrel
  have HNO := zu8 g8
  have g0 := zu8 g9
  clear g8 g9
  by_cases hlt : k < x.aff.length
  ·obtain ⟨h0, b, off, ua, uc, rfl, j0, ha⟩ := HV.out.at k hlt
   have h2 := zu8 (HV.out.below g0.out)
   have HW := zu8 h0
   have HA := zu8 (ha.below g0.out)
   have g4 := zu8 (V.zs0 (p := V.zee n s) hlt HNO.out)
   have g5 : Hid (V.zee n s x.aff[k] = false -> ∀ j (h : j < x.aff.length), j < k + 1 -> V.zee n s x.aff[j] = false) := zu8 (fun hf j h hj => by
     by_cases e : j = k
     · subst e; exact hf
     · exact HNO.out j h (by omega))
   generalize x.aff[k] = a at *
   have g1 : Hid (V.zee n s a = (decide (a.sch = n) && decide (a.name = s))) := zu8 rfl
   have e0 := HA.out.c0
   have e1 := HA.out.c1
   have e2 := HA.out.c2
   have e3 := HA.out.c3
   have i1 : (0 : Int) ≤ (k : Int) := by omega
   have i2 : (k : Int) < (x.aff.length : Int) := by omega
   have wr1 : IntKind.i64.wrap ((k : Int) + 1) = (k : Int) + 1 := IntWalk.i64_in _ (by omega)
   obtain ⟨hb2, d0, d1, d2, d3⟩ := zna a (.slice ua a.its.length uc) wr
   have h6 := zu8 (HA.out.its.below hb2)
   have HB2 := zu9 g0 hb2
   have h3 := zu8 (HM.out.below HB2.out)
   have h7 := zu8 (h2.out.below hb2)
   have b0 := zf HB2.out c0
   have b1 := zf HB2.out c1
   have b2 := zf HB2.out c2
   have b3 := zf HB2.out c3
   clear hb2 h0 ha HA h2
   by_cases hp : V.zee n s a = true
   ·have h4 : Hid (V.covP x n s ver = (V.jy a.rs a.its ver && V.xk x)) := zu8 (by unfold V.covP; rw [g4.out hp])
    rw [g1.out, Bool.and_eq_true, decide_eq_true_eq, decide_eq_true_eq] at hp
    have q1 : (a.sch == n) = true := by simpa using hp.1
    have q2 : (a.name == s) = true := by simpa using hp.2
    have q3 := hp.1
    have q4 := hp.2
    clear hp g5 g4 g1
    subst q3
    subst q4
    go_wp2_with fail
    generalize wr.alloc (.cells #[.int .i64 a.sch, .string ⟨a.name.toArray⟩, .int .i64 a.rs, .slice ua a.its.length uc] 70) = w2 at *
    refine (ziq a.rs (.slice ua a.its.length uc) a.its ver w2 h3.out h6.out HW.out.lens HW.out.len HI.out.2.2).mono ?_
    rintro e w3 ⟨rfl, hb3⟩
    have HB3 := zu9 HB2 hb3
    have h8 := zu8 (h3.out.below hb3)
    have h9 := zu8 (h7.out.below hb3)
    replace b0 := zf hb3 b0
    replace b1 := zf hb3 b1
    replace b2 := zf hb3 b2
    replace b3 := zf hb3 b3
    clear hb3
    rcases g2 : V.jy a.rs a.its ver with _ | _
    ·have HR : Hid (V.covP x a.sch a.name ver = false) := zu8 (by rw [h4.out, g2]; rfl)
     clear g2
     go_wp2
     go_ret
     exact ⟨ze HR.out.symm, HB.out.trans (HB3.out.mono HB.out.size)⟩
    ·have HR : Hid (V.covP x a.sch a.name ver = V.xk x) := zu8 (by rw [h4.out, g2]; rfl)
     clear g2
     go_wp2_with fail
     refine (zmp x (.slice (some ⟨b, off, none⟩) x.aff.length pc) w3 h8.out h9.out HI.out.1 HI.out.2.1).mono ?_
     rintro e w4 ⟨rfl, h5⟩
     have HB4 := zu9 HB3 h5
     clear h5
     go_wp2
     go_ret
     exact ⟨ze HR.out.symm, HB.out.trans (HB4.out.mono HB.out.size)⟩
   ·have g3 : V.zee n s a = false := by simpa using hp
    have HNY := zu8 (g5.out g3)
    have g6 : (a.sch == n) = false /\ ¬ a.sch = n ∨ (a.sch == n) = true /\ a.sch = n /\ (a.name == s) = false /\ ¬ a.name = s := by
     rw [g1.out, Bool.and_eq_false_iff, decide_eq_false_iff_not, decide_eq_false_iff_not] at g3
     by_cases h1 : a.sch = n
     ·rcases g3 with h | h
      ·exact absurd h1 h
      ·exact .inr ⟨by simpa using h1, h1, by rw [zvc]; exact h, h⟩
     ·exact .inl ⟨by rw [zvc]; exact h1, h1⟩
    clear hp g3 g5 g4 g1
    rcases g6 with ⟨q1, q2⟩ | ⟨q1, q2, q3, q4⟩
    ·exact zyf
    ·subst q2
     exact zyf
  ·obtain rfl : k = x.aff.length := by omega
   have HR : Hid (V.covP x n s ver = false) := zu8 (by unfold V.covP; rw [V.find_no (fun j hj => HNO.out j hj hj)])
   go_wp2
   go_ret
   exact ⟨ze HR.out.symm, HB.out.trans (g0.out.mono HB.out.size)⟩
open Go.RowKit
open Go.RowKit
namespace V
end V
open Go.RowKit
namespace V
structure Cmp {α : Type} (c : α -> α -> Int) : Prop where
 zero : ∀ a b, c a b = 0 ↔ a = b
 anti : ∀ a b, c a b < 0 ↔ 0 < c b a
 trans : ∀ a b d, c a b < 0 -> c b d < 0 -> c a d < 0
theorem zjc : ∀ a b : Bs, Lib.compareBytes a b = 0 ↔ a = b
 | [], [] => by simp [Lib.compareBytes]
 | [], y :: b => by simp [Lib.compareBytes]
 | x :: a, [] => by simp [Lib.compareBytes]
 | x :: a, y :: b => by
  have ih := zjc a b
  unfold Lib.compareBytes
  by_cases h1 : x < y
  ·rw [if_pos h1]
   simp only [List.cons.injEq]
   exact ⟨fun h => absurd h (by decide), fun h => absurd h1 (by rw [h.1]; exact UInt8.lt_irrefl y)⟩
  ·rw [if_neg h1]
   by_cases h2 : y < x
   ·rw [if_pos h2]
    simp only [List.cons.injEq]
    exact ⟨fun h => absurd h (by decide), fun h => absurd h2 (by rw [h.1]; exact UInt8.lt_irrefl y)⟩
   ·rw [if_neg h2, ih]
    have e : x = y := by
     apply UInt8.toNat_inj.1
     simp only [UInt8.lt_iff_toNat_lt] at h1 h2
     omega
    simp [e]
theorem zka : ∀ a b : Bs, Lib.compareBytes a b = - Lib.compareBytes b a
 | [], [] => by simp [Lib.compareBytes]
 | [], y :: b => by simp [Lib.compareBytes]
 | x :: a, [] => by simp [Lib.compareBytes]
 | x :: a, y :: b => by
  have ih := zka a b
  unfold Lib.compareBytes
  simp only [UInt8.lt_iff_toNat_lt] at *
  by_cases h1 : x.toNat < y.toNat
  ·rw [if_pos h1, if_neg (by omega), if_pos h1]
  ·rw [if_neg h1]
   by_cases h2 : y.toNat < x.toNat
   ·rw [if_pos h2, if_pos h2]; rfl
   ·rw [if_neg h2, if_neg h2, if_neg h1, ih]
theorem _root_.Go.Proofs.YtbikeahmldobkaaGreatDoor.zv8 {P : Prop} (h : P := by
 split at h1
 ·split at h2
  ·rw [if_pos (by omega)]; decide
  ·split at h2
   ·exact absurd h2 (by decide)
   ·rw [if_pos (by omega)]; decide
 ·split at h1
  ·exact absurd h1 (by decide)
  ·split at h2
   ·rw [if_pos (by omega)]; decide
   ·split at h2
    ·exact absurd h2 (by decide)
    ·rw [if_neg (by omega), if_neg (by omega)]
     exact ih h1 h2) : P := h
theorem zg8 : ∀ a b d : Bs, Lib.compareBytes a b < 0 -> Lib.compareBytes b d < 0 -> Lib.compareBytes a d < 0
 | [], _, [], h1, h2 => by
  rename_i b
  cases b
  ·exact h1
  ·simp [Lib.compareBytes] at h2
 | [], _, _ :: _, _, _ => by simp [Lib.compareBytes]
 | _ :: _, [], _, h1, _ => by simp [Lib.compareBytes] at h1
 | _ :: _, _ :: _, [], _, h2 => by simp [Lib.compareBytes] at h2
 | x :: a, y :: b, z :: d, h1, h2 => by
  have ih := zg8 a b d
  unfold Lib.compareBytes at h1 h2 ⊢
  simp only [UInt8.lt_iff_toNat_lt] at *
  exact zv8
theorem zd5 : Cmp Lib.compareBytes :=
 ⟨zjc, fun a b => by rw [zka a b]; omega, zg8⟩
end V
open Go.RowKit
namespace V
section
variable {α : Type} {c : α -> α -> Int}
def AscC (c : α -> α -> Int) (l : List α) : Prop := l.Pairwise fun a b => c a b < 0
theorem Cmp.irr (C : Cmp c) (a : α) : ¬ c a a < 0 := by rw [(C.zero a a).2 rfl]; omega
theorem zh3 (C : Cmp c) : ∀ {l m : List α}, AscC c l -> AscC c m -> (∀ x, x ∈ l ↔ x ∈ m) -> l = m
 | [], [], _, _, _ => rfl
 | [], y :: m, _, _, h => absurd ((h y).2 (by simp)) (by simp)
 | x :: l, [], _, _, h => absurd ((h x).1 (by simp)) (by simp)
 | x :: l, y :: m, hl, hm, h => by
  have g0 := List.pairwise_cons.1 hl
  have g1 := List.pairwise_cons.1 hm
  have e : x = y := by
   rcases List.mem_cons.1 ((h x).1 (by simp)) with e | hx
   ·exact e
   ·rcases List.mem_cons.1 ((h y).2 (by simp)) with e | hy
    ·exact e.symm
    ·exact absurd (C.trans _ _ _ (g0.1 y hy) (g1.1 x hx)) (C.irr x)
  subst e
  rw [zh3 C g0.2 g1.2 fun z => ?_]
  constructor
  ·intro hz
   rcases List.mem_cons.1 ((h z).1 (List.mem_cons_of_mem _ hz)) with e | g2
   ·subst e; exact absurd (g0.1 _ hz) (C.irr _)
   ·exact g2
  ·intro hz
   rcases List.mem_cons.1 ((h z).2 (List.mem_cons_of_mem _ hz)) with e | g2
   ·subst e; exact absurd (g1.1 _ hz) (C.irr _)
   ·exact g2
def insC (c : α -> α -> Int) (x : α) : List α -> List α
 | [] => [x]
 | y :: l => if c y x < 0 then y :: insC c x l else x :: y :: l
theorem zie {x y : α} : ∀ {l : List α}, y ∈ insC c x l ↔ y = x ∨ y ∈ l
 | [] => by simp [insC]
 | z :: l => by
  unfold insC
  split
  ·rw [List.mem_cons, zie (l := l), List.mem_cons]
   constructor
   ·rintro (h | h | h)
    ·exact .inr (.inl h)
    ·exact .inl h
    ·exact .inr (.inr h)
   ·rintro (h | h | h)
    ·exact .inr (.inl h)
    ·exact .inl h
    ·exact .inr (.inr h)
  ·rw [List.mem_cons]
theorem zqb (C : Cmp c) {x : α} : ∀ {l : List α}, AscC c l -> x ∉ l -> AscC c (insC c x l)
 | [], _, _ => List.pairwise_singleton _ _
 | y :: l, h, hn => by
  have h' := List.pairwise_cons.1 h
  rw [List.mem_cons, not_or] at hn
  unfold insC
  split
  ·rename_i hlt
   refine List.pairwise_cons.2 ⟨fun z hz => ?_, zqb C h'.2 hn.2⟩
   rcases zie.1 hz with rfl | hz
   ·exact hlt
   ·exact h'.1 z hz
  ·rename_i hnlt
   have g0 : c x y < 0 := by
    rw [C.anti]
    have : c y x ≠ 0 := fun e => hn.1 ((C.zero _ _).1 e).symm
    omega
   refine List.pairwise_cons.2 ⟨fun z hz => ?_, h⟩
   rcases List.mem_cons.1 hz with rfl | hz
   ·exact g0
   ·exact C.trans _ _ _ g0 (h'.1 z hz)
theorem znf {x : α} : ∀ {l : List α} {i : Nat}, i ≤ l.length -> (∀ j (h : j < l.length), j < i -> c l[j] x < 0) -> (∀ h : i < l.length, ¬ c l[i] x < 0) -> insC c x l = l.take i ++ x :: l.drop i
 | [], i, hi, _, _ => by obtain rfl : i = 0 := by simpa using hi
                         rfl
 | y :: l, 0, _, _, hn => by
  have h0 : ¬ c y x < 0 := hn (by simp)
  unfold insC
  rw [if_neg h0]
  rfl
 | y :: l, i + 1, hi, hlt, hn => by
  have h0 : c y x < 0 := hlt 0 (by simp) (by omega)
  unfold insC
  rw [if_pos h0, znf (l := l) (i := i) (by simpa using hi) (fun j h hj => hlt (j + 1) (by simpa using h) (by omega)) (fun h => hn (by simpa using h))]
  rfl
def addC [DecidableEq α] (c : α -> α -> Int) (l : List α) (x : α) : List α := if x ∈ l then l else insC c x l
theorem zii [DecidableEq α] {l : List α} {x y : α} : y ∈ addC c l x ↔ y ∈ l ∨ y = x := by
 unfold addC
 split
 ·constructor
  ·exact .inl
  ·rintro (h | rfl) <;> assumption
 ·rw [zie, or_comm]
theorem addC_asc [DecidableEq α] (C : Cmp c) {l : List α} {x : α} (h : AscC c l) : AscC c (addC c l x) := by
 unfold addC
 split
 ·exact h
 ·rename_i hn; exact zqb C h hn
theorem zoc {x : α} : ∀ {l : List α}, (insC c x l).length = l.length + 1
 | [] => rfl
 | y :: l => by
  unfold insC
  split
  ·rw [List.length_cons, zoc, List.length_cons]
  ·rfl
theorem zo5 [DecidableEq α] {l : List α} {x : α} : (addC c l x).length ≤ l.length + 1 := by
 unfold addC
 split
 ·omega
 ·rw [zoc]; exact zva _
def zbj [DecidableEq α] (c : α -> α -> Int) (l xs : List α) : List α := xs.foldl (addC c) l
theorem zbz [DecidableEq α] {y : α} : ∀ {xs l : List α}, y ∈ zbj c l xs ↔ y ∈ l ∨ y ∈ xs
 | [], l => by simp [zbj]
 | x :: xs, l => by
  have := zbz (y := y) (xs := xs) (l := addC c l x)
  unfold zbj at *
  rw [List.foldl_cons, this, zii, List.mem_cons, or_assoc]
theorem zb2 [DecidableEq α] (C : Cmp c) : ∀ {xs l : List α}, AscC c l -> AscC c (zbj c l xs)
 | [], _, h => h
 | x :: xs, l, h => by
  have := zb2 C (xs := xs) (addC_asc C (x := x) h)
  unfold zbj at *
  rw [List.foldl_cons]; exact this
theorem zd7 [DecidableEq α] : ∀ {xs l : List α}, (zbj c l xs).length ≤ l.length + xs.length
 | [], l => by simp [zbj]
 | x :: xs, l => by
  have h1 := zd7 (xs := xs) (l := addC c l x)
  have h2 := zo5 (c := c) (l := l) (x := x)
  unfold zbj at *
  rw [List.foldl_cons, List.length_cons]
  omega
end
def cmpI : List Int -> List Int -> Int
 | [], [] => 0
 | [], _ :: _ => -1
 | _ :: _, [] => 1
 | x :: a, y :: b => if x < y then -1 else if y < x then 1 else cmpI a b
theorem ux : ∀ a b : List Int, cmpI a b = 0 ↔ a = b
 | [], [] => by simp [cmpI]
 | [], y :: b => by simp [cmpI]
 | x :: a, [] => by simp [cmpI]
 | x :: a, y :: b => by
  have ih := ux a b
  unfold cmpI
  by_cases h1 : x < y
  ·rw [if_pos h1]; simp only [List.cons.injEq]; exact ⟨fun h => absurd h (by decide), fun h => by omega⟩
  ·rw [if_neg h1]
   by_cases h2 : y < x
   ·rw [if_pos h2]; simp only [List.cons.injEq]; exact ⟨fun h => absurd h (by decide), fun h => by omega⟩
   ·rw [if_neg h2, ih]
    obtain rfl : x = y := by omega
    simp
theorem zbu : ∀ a b : List Int, cmpI a b = - cmpI b a
 | [], [] => by simp [cmpI]
 | [], y :: b => by simp [cmpI]
 | x :: a, [] => by simp [cmpI]
 | x :: a, y :: b => by
  have ih := zbu a b
  unfold cmpI
  by_cases h1 : x < y
  ·rw [if_pos h1, if_neg (by omega), if_pos h1]
  ·rw [if_neg h1]
   by_cases h2 : y < x
   ·rw [if_pos h2, if_pos h2]; rfl
   ·rw [if_neg h2, if_neg h2, if_neg h1, ih]
theorem zat : ∀ a b d : List Int, cmpI a b < 0 -> cmpI b d < 0 -> cmpI a d < 0
 | [], b, [], h1, h2 => by
  cases b
  ·exact h1
  ·simp [cmpI] at h2
 | [], _, _ :: _, _, _ => by simp [cmpI]
 | _ :: _, [], _, h1, _ => by simp [cmpI] at h1
 | _ :: _, _ :: _, [], _, h2 => by simp [cmpI] at h2
 | x :: a, y :: b, z :: d, h1, h2 => by
  have ih := zat a b d
  unfold cmpI at h1 h2 ⊢
  exact zv8
theorem zda : Cmp cmpI := ⟨ux, fun a b => by rw [zbu a b]; omega, zat⟩
def cov (x : Note) (c : Comp) : Bool := covP x.adv c.sch c.name c.ver
structure Hit where
 comp : Int
 id : Bs
 sev : Int
 docs : List (List Int)
def selN (xs : List Note) (c : Comp) (id : Bs) : List Note := xs.filter fun x => decide (x.adv.id = id) && cov x c
def sevN (l : List Note) : Int := l.foldl (fun s x => max s x.adv.sev) 0
def zcw (l : List Note) : List (List Int) := zbj cmpI [] (l.map (·.doc))
def idsN (xs : List Note) : List Bs := zbj Lib.compareBytes [] (xs.map (·.adv.id))
def hitN (xs : List Note) (i : Int) (c : Comp) (id : Bs) : Hit := ⟨i, id, sevN (selN xs c id), zcw (selN xs c id)⟩
def kg (xs : List Note) (c : Comp) : List Bs := idsN (xs.filter fun x => cov x c)
def ul (xs : List Note) (i : Int) (c : Comp) : List Hit := (kg xs c).map (hitN xs i c)
def jw (xs : List Note) (l : List Comp) : Nat -> List Hit
 | 0 => []
 | k + 1 => jw xs l k ++ match l[k]? with | some c => ul xs k c | none => []
def kt (ok : Bool) (xs : List Note) (l : List Comp) : List Hit := if ok then jw xs l l.length else []
theorem zin : ∀ (l : List Note) (s : Int), s ≤ l.foldl (fun s x => max s x.adv.sev) s /\ ∀ x ∈ l, x.adv.sev ≤ l.foldl (fun s x => max s x.adv.sev) s
 | [], s => ⟨Int.le_refl _, fun x h => by simp at h⟩
 | y :: l, s => by
  have ih := zin l (max s y.adv.sev)
  rw [List.foldl_cons]
  refine ⟨by omega, fun x hx => ?_⟩
  rcases List.mem_cons.1 hx with rfl | hx
  ·omega
  ·exact ih.2 x hx
theorem idsN_mem {xs : List Note} {id : Bs} : id ∈ idsN xs ↔ ∃ x ∈ xs, x.adv.id = id := by
 unfold idsN
 rw [zbz]
 simp [List.mem_map]
theorem zfe (xs : List Note) : AscC Lib.compareBytes (idsN xs) := zb2 zd5 List.Pairwise.nil
theorem zdk {xs : List Note} {l : List Comp} {k : Nat} (h : k < l.length) : jw xs l (k + 1) = jw xs l k ++ ul xs k l[k] := by
 rw [jw, List.getElem?_eq_getElem h]
end V
end Go.Proofs.YtbikeahmldobkaaGreatDoor

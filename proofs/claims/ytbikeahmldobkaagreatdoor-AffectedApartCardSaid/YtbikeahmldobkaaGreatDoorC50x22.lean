/-
  Lemmas for the law.
-/
import Derived.Test.YtbikeahmldobkaaGreatDoorC50x18
import Derived.Test.YtbikeahmldobkaaGreatDoorC50x21
import Derived.Test.YtbikeahmldobkaaGreatDoorC50x19
set_option linter.all false
set_option maxRecDepth 100000
set_option maxHeartbeats 6400000
namespace Go.Proofs.YtbikeahmldobkaaGreatDoor
open Go.RowKit
theorem zsr {W0 wa wq : World} (g0 : Below W0.drew.heap.size W0.drew wa) (g1 : Below wa.heap.size wa wq) : Below W0.heap.size W0 wq :=
 ((zwj W0.heap.size W0).drew).trans (Below.trans (show Below W0.heap.size W0.drew wa from g0) (g1.mono g0.size))
def hasF (n : Int) (v : V.Bs) (x : V.Itv) : Bool := (decide (x.lk = 0) || decide (V.cutC n x.low (v, false) ≤ 0)) && (decide (x.hk = 0) || decide (0 ≤ V.cutC n x.high (v, true)))
theorem zj9 {α : Type} {p : α -> Bool} {l : List α} {k : Nat} (h : (l.take k).any p = false) (hk : k < l.length) (hb : p l[k] = false) : (l.take (k + 1)).any p = false := by
 rw [List.take_succ_eq_append_getElem hk, List.any_append, h]
 simpa using hb
theorem zn2 {α : Type} {p : α -> Bool} {l : List α} {k : Nat} (hk : k < l.length) (hb : p l[k] = true) : l.any p = true :=
 List.any_eq_true.2 ⟨l[k], List.getElem_mem hk, hb⟩
theorem zw5 {P : Prop} (h : P := by
 have HY := zwg (HYES.out (by rw [HXF2.out, HPT.out, HQT.out]; rfl))
 go_wp2
 go_roundw
 case rel => exact ⟨k + 1, by omega, by go_num, HY.out, HB7.out⟩
 case measure => simp [intOf]; omega) : P := h
theorem zxa {P : Prop} (h : P := by
 have HR : Hid (V.qa n l s = true) := zwg (by rw [HF2.out]; exact HNO.out (by rw [HXF2.out, HPT.out, HQT.out]; rfl))
 go_wp2
 go_ret
 exact ⟨zg HR.out.symm, HB3.out.trans (HB7.out.mono HB3.out.size)⟩) : P := h
theorem zzt {P : Prop} (h : P := by
 have HR : Hid (V.qa n l s = false) := zwg (by rw [HF.out, HOK.out, hva]; rfl)
 clear hva
 go_wp2
 go_ret
 exact ⟨zg HR.out.symm, HB2.out⟩) : P := h
theorem zjo (n : Int) (v : Value) (l : List V.Itv) (s : V.Bs) (w : World) (hm : zj w) (hv : Itvs w v l) (hs : Lens l) (hl : l.length ≤ maxLen) (hsl : s.length ≤ maxLen) :
  Calls Tryz.prog 80 #[setV n v, .string ⟨s.toArray⟩] w fun e w' => e = .returned (.bool (V.qa n l s)) /\ Below w.heap.size w w' := by
 have HV := zwg hv
 obtain ⟨va, vc, rfl⟩ := hv.slice
 have HL := zwg hl
 have j5 := zwg (show (ByteArray.mk s.toArray).size ≤ maxLen by simpa [ByteArray.size] using hsl)
 unfold maxLen at hl
 have HS := zwg hs
 have HF : Hid (V.qa n l s = (V.okR n l && (V.valid n s && l.any (hasF n s)))) := zwg rfl
 have g7 : Below w.heap.size w (w.alloc (.cells #[.int .i64 n, .slice va l.length vc] 68)) := (zwj _ w).alloc (zwi _) _
 have HB0 := zwg g7
 have HM := zwg (hm.below g7)
 have c0 : (w.alloc (.cells #[.int .i64 n, .slice va l.length vc] 68)).cell? ⟨w.heap.size, 0, none⟩ = some (.int .i64 n) := by simp [zh]
 have c1 : (w.alloc (.cells #[.int .i64 n, .slice va l.length vc] 68)).cell? ⟨w.heap.size, 1, none⟩ = some (.slice va l.length vc) := by simp [zh]
 have h9 : w.heap.size < (w.alloc (.cells #[.int .i64 n, .slice va l.length vc] 68)).heap.size := by simp
 clear hv hs g7 hm hsl
 unfold setV
 go_enter Tryz.func80, Tryz.ntmps80
 go_wp2_with fail
 generalize w.alloc (.cells #[.int .i64 n, .slice va l.length vc] 68) = w0 at *
 refine (zh7 n (.slice va l.length vc) l w0 HM.out (HV.out.below HB0.out) HS.out HL.out).mono ?_
 rintro e w1 ⟨rfl, hb1⟩
 have HB1 := zwh HB0 hb1
 have g2 := zwg (HM.out.below hb1)
 have d0 := ze hb1 c0
 have d1 := ze hb1 c1
 have j0 : w.heap.size < w1.heap.size := Nat.lt_of_lt_of_le h9 hb1.size
 clear hb1 c0 c1 h9 HM
 rcases hok : V.okR n l with _ | _
 ·have HR : Hid (V.qa n l s = false) := zwg (by rw [HF.out, hok]; rfl)
  clear hok
  exact zzo
 ·have HOK := zwg hok
  clear hok
  go_wp2_with fail
  refine (zhg n ⟨s.toArray⟩ w1 g2.out j5.out).mono ?_
  rintro e w2 ⟨rfl, hb2⟩
  rw [jq]
  have HB2 := zwh HB1 hb2
  have j1 := zwg (g2.out.below hb2)
  have e0 := ze hb2 d0
  have e1 := ze hb2 d1
  have k4 : w.heap.size < w2.heap.size := Nat.lt_of_lt_of_le j0 hb2.size
  clear hb2 d0 d1 j0 g2
  rcases hva : V.valid n s with _ | _
  ·exact zzt
  ·have h4 := zwg hva
   have HF2 : Hid (V.qa n l s = l.any (hasF n s)) := zwg (by rw [HF.out, HOK.out, hva]; rfl)
   clear hva
   have HOKS := zwg (V.zg0 HOK.out)
   obtain ⟨hbA, h5, _, j6⟩ := zmr w2 #[.string ⟨s.toArray⟩, .bool false] #[.string ⟨s.toArray⟩, .bool true] 152 152
   have p0 : ((w2.alloc (.cells #[.string ⟨s.toArray⟩, .bool false] 152)).alloc (.cells #[.string ⟨s.toArray⟩, .bool true] 152)).cell? ⟨w2.heap.size, 0, none⟩ = some (.string ⟨s.toArray⟩) := by simp [zh]
   have p1 : ((w2.alloc (.cells #[.string ⟨s.toArray⟩, .bool false] 152)).alloc (.cells #[.string ⟨s.toArray⟩, .bool true] 152)).cell? ⟨w2.heap.size, 1, none⟩ = some (.bool false) := by simp [zh]
   have q0 : ((w2.alloc (.cells #[.string ⟨s.toArray⟩, .bool false] 152)).alloc (.cells #[.string ⟨s.toArray⟩, .bool true] 152)).cell? ⟨w2.heap.size + 1, 0, none⟩ = some (.string ⟨s.toArray⟩) := by rw [h5 0]; rfl
   have q1 : ((w2.alloc (.cells #[.string ⟨s.toArray⟩, .bool false] 152)).alloc (.cells #[.string ⟨s.toArray⟩, .bool true] 152)).cell? ⟨w2.heap.size + 1, 1, none⟩ = some (.bool true) := by rw [h5 1]; rfl
   have f0 := ze hbA e0
   have f1 := ze hbA e1
   have HB3 := zwh HB2 hbA
   have j7 := zwg (j1.out.below hbA)
   have g8 := zwg (And.intro f0 (And.intro p0 (And.intro p1 (And.intro q0 q1))))
   clear h5 p0 p1 q0 q1 f0 e0 j6 hbA j1
   go_wp2
   clear f1 e1
   generalize (w2.alloc (.cells #[.string ⟨s.toArray⟩, .bool false] 152)).alloc (.cells #[.string ⟨s.toArray⟩, .bool true] 152) = W at *
   go_loopw [28] (fun iv wx => ∃ k : Nat, k ≤ l.length /\ iv = .int .i64 k /\ (l.take k).any (hasF n s) = false /\ Below W.heap.size W wx) (fun iv _ => l.length - (intOf iv).toNat)
   case atStart => exact ⟨0, Nat.zero_le _, rfl, rfl, zwj _ _⟩
   case round =>
    obtain ⟨k, hk, rfl, hz, h6⟩ := hrel
    have HZ := zwg hz
    have HBX := zwg h6
    have HBF := zwh HB3 h6
    clear hz h6
    by_cases hlt : k < l.length
    ·obtain ⟨b, off, rfl, g7, hx⟩ := HV.out.at k hlt
     obtain ⟨h0, h1, h2, h3⟩ := hx.below g7 HBF.out
     have k5 : (0 : Int) ≤ (k : Int) := by omega
     have k6 : (k : Int) < (l.length : Int) := by omega
     have HBK : Hid (V.zr n l[k] = true) := zwg (HOKS.out.bnd _ (List.getElem_mem hlt))
     have HYES := zwg (fun hb => zj9 (p := hasF n s) HZ.out hlt hb)
     have HNO := zwg (fun hb => zn2 (p := hasF n s) hlt hb)
     clear hx
     generalize l[k] = x at *
     have j8 : Hid (hasF n s x = ((decide (x.lk = 0) || decide (V.cutC n x.low (s, false) ≤ 0)) && (decide (x.hk = 0) || decide (0 ≤ V.cutC n x.high (s, true))))) := zwg rfl
     have hbA : Below wr.heap.size wr (wr.alloc (.cells #[.string ⟨x.lo.toArray⟩, .int .i64 x.lk, .string ⟨x.hi.toArray⟩, .int .i64 x.hk] 83)) := (zwj _ wr).alloc (zwi _) _
     have g2 := zwg ((j7.out.below HBX.out).below hbA)
     have g3 := zwh HBX hbA
     have m0 := ze g3.out g8.out.1
     have m1 := ze g3.out g8.out.2.1
     have m2 := ze g3.out g8.out.2.2.1
     have m3 := ze g3.out g8.out.2.2.2.1
     have m4 := ze g3.out g8.out.2.2.2.2
     have j2 : zcb (wr.alloc (.cells #[.string ⟨x.lo.toArray⟩, .int .i64 x.lk, .string ⟨x.hi.toArray⟩, .int .i64 x.hk] 83)) wr.heap.size 0 x := by
      exact z0p
     have j9 := zwg j2
     clear hbA j2
     go_wp2_with fail
     generalize wr.alloc (.cells #[.string ⟨x.lo.toArray⟩, .int .i64 x.lk, .string ⟨x.hi.toArray⟩, .int .i64 x.hk] 83) = W1 at *
     obtain ⟨d0, d1, d2, d3⟩ := j9.out
     rw [Nat.zero_add] at d1 d2 d3
     clear h0 h1 h2 h3
     obtain ⟨P, hP⟩ : ∃ P, P = (decide (x.lk = 0) || decide (V.cutC n x.low (s, false) ≤ 0)) := ⟨_, rfl⟩
     obtain ⟨Q, hQ⟩ : ∃ Q, Q = (decide (x.hk = 0) || decide (0 ≤ V.cutC n x.high (s, true))) := ⟨_, rfl⟩
     have HP := zwg hP
     have HQ := zwg hQ
     have HXF2 : Hid (hasF n s x = (P && Q)) := zwg (by rw [j8.out, hP, hQ])
     clear hP hQ
     rcases j3 : (x.lk == 0) with _ | _
     ·have i1 : x.lk ≠ 0 := by simpa using j3
      have j4 := V.kw HBK.out i1
      have h7 : Hid (P = decide (V.cutC n x.low (s, false) ≤ 0)) := zwg (by rw [HP.out, decide_eq_false i1]; rfl)
      clear i1
      go_region_held3 (fun W' => zj W' /\ W'.cell? ⟨wr.heap.size, 0, none⟩ = some (.string ⟨x.lo.toArray⟩) /\ W'.cell? ⟨wr.heap.size, 1, none⟩ = some (.int .i64 x.lk) /\ W'.cell? ⟨wr.heap.size, 2, none⟩ = some (.string ⟨x.hi.toArray⟩) /\ W'.cell? ⟨wr.heap.size, 3, none⟩ = some (.int .i64 x.hk) /\
        W'.cell? ⟨w.heap.size, 0, none⟩ = some (.int .i64 n) /\ W'.cell? ⟨w2.heap.size, 0, none⟩ = some (.string ⟨s.toArray⟩) /\ W'.cell? ⟨w2.heap.size, 1, none⟩ = some (.bool false))
       (first
         | (go_split_ands; exact ⟨zj.below (by assumption) g0, zwm g0, zwm g0, zwm g0, zwm g0, zwm g0, zwm g0, zwm g0⟩)
         | (exact ⟨g2.out, d0, d1, d2, d3, m0, m1, m2⟩)
         | go_keep)
       (first
         | (go_at_call 113; refine (zeu x _).mono ?_; rintro e wq ⟨rfl, g0⟩)
         | (go_at_call 112; refine (xu n x.low (s, false) _ (by first | assumption | exact And.left (by assumption)) HOKS.out.sch j4 h4.out).mono ?_; rintro e wq ⟨rfl, g0⟩))
      rename_i wa hba hS
      have HB5 := zwg (zsr hba g0)
      rw [← h7.out]
      clear hba g0 hS h7
      generalize wq = W2 at *
      have k0 := ze HB5.out d0
      have k1 := ze HB5.out d1
      have k2 := ze HB5.out d2
      have k3 := ze HB5.out d3
      have n0 := ze HB5.out m0
      have n3 := ze HB5.out m3
      have n4 := ze HB5.out m4
      have h8 := zwg (g2.out.below HB5.out)
      have HB6 := zwg (g3.out.trans (HB5.out.mono g3.out.size))
      clear d0 d1 d2 d3 m0 m1 m2 m3 m4 HB5 g2
      go_wp2_with fail
      rcases g9 : (x.hk == 0) with _ | _
      ·have i1 : x.hk ≠ 0 := by simpa using g9
       have g6 := V.qs HBK.out i1
       have g5 : Hid (Q = decide (0 ≤ V.cutC n x.high (s, true))) := zwg (by rw [HQ.out, decide_eq_false i1]; rfl)
       clear i1
       go_region_held3 (fun W' => zj W' /\ W'.cell? ⟨wr.heap.size, 0, none⟩ = some (.string ⟨x.lo.toArray⟩) /\ W'.cell? ⟨wr.heap.size, 1, none⟩ = some (.int .i64 x.lk) /\ W'.cell? ⟨wr.heap.size, 2, none⟩ = some (.string ⟨x.hi.toArray⟩) /\ W'.cell? ⟨wr.heap.size, 3, none⟩ = some (.int .i64 x.hk) /\
         W'.cell? ⟨w.heap.size, 0, none⟩ = some (.int .i64 n) /\ W'.cell? ⟨w2.heap.size + 1, 0, none⟩ = some (.string ⟨s.toArray⟩) /\ W'.cell? ⟨w2.heap.size + 1, 1, none⟩ = some (.bool true))
        (first
          | (go_split_ands; exact ⟨zj.below (by assumption) g0, zwm g0, zwm g0, zwm g0, zwm g0, zwm g0, zwm g0, zwm g0⟩)
          | (exact ⟨h8.out, k0, k1, k2, k3, n0, n3, n4⟩)
          | go_keep)
        (first
          | (go_at_call 114; refine (za7 x _).mono ?_; rintro e wq ⟨rfl, g0⟩)
          | (go_at_call 112; refine (xu n x.high (s, true) _ (by first | assumption | exact And.left (by assumption)) HOKS.out.sch g6 h4.out).mono ?_; rintro e wq ⟨rfl, g0⟩))
       rename_i wa hba hS
       have hb7 := zsr hba g0
       have HB7 := zwh HB6 hb7
       rw [← g5.out]
       clear hb7 hba g0 hS k0 k1 k2 k3 n0 n3 n4 g5
       generalize wq = W3 at *
       rcases g4 : P with _ | _
       ·have HPT := zwg g4
        clear g4
        rcases g1 : Q with _ | _
        ·have HQT := zwg g1
         clear g1
         exact zw5
        ·have HQT := zwg g1
         clear g1
         exact zw5
       ·have HPT := zwg g4
        clear g4
        rcases g1 : Q with _ | _
        ·have HQT := zwg g1
         clear g1
         exact zw5
        ·have HQT := zwg g1
         clear g1
         exact zxa
      ·have HQT : Hid (Q = true) := zwg (by rw [HQ.out, decide_eq_true (eq_of_beq g9)]; rfl)
       go_quiet (fail)
       have HB7 := zwg (below_drewN HB6.out nq)
       generalize W2.drewN nq = W3 at *
       clear k0 k1 k2 k3 n0 n3 n4
       rcases g4 : P with _ | _
       ·have HPT := zwg g4
        clear g4
        exact zw5
       ·have HPT := zwg g4
        clear g4
        exact zxa
     ·have HPT : Hid (P = true) := zwg (by rw [HP.out, decide_eq_true (eq_of_beq j3)]; rfl)
      go_quiet (fail)
      have HB5 := zwg (below_drewN (zwj W1.heap.size W1) nq)
      generalize W1.drewN nq = W2 at *
      have k0 := ze HB5.out d0
      have k1 := ze HB5.out d1
      have k2 := ze HB5.out d2
      have k3 := ze HB5.out d3
      have n0 := ze HB5.out m0
      have n3 := ze HB5.out m3
      have n4 := ze HB5.out m4
      have h8 := zwg (g2.out.below HB5.out)
      have HB6 := zwg (g3.out.trans (HB5.out.mono g3.out.size))
      clear d0 d1 d2 d3 m0 m1 m2 m3 m4 HB5 g2
      go_wp2_with fail
      rcases g9 : (x.hk == 0) with _ | _
      ·have i1 : x.hk ≠ 0 := by simpa using g9
       have g6 := V.qs HBK.out i1
       have g5 : Hid (Q = decide (0 ≤ V.cutC n x.high (s, true))) := zwg (by rw [HQ.out, decide_eq_false i1]; rfl)
       clear i1
       go_region_held3 (fun W' => zj W' /\ W'.cell? ⟨wr.heap.size, 0, none⟩ = some (.string ⟨x.lo.toArray⟩) /\ W'.cell? ⟨wr.heap.size, 1, none⟩ = some (.int .i64 x.lk) /\ W'.cell? ⟨wr.heap.size, 2, none⟩ = some (.string ⟨x.hi.toArray⟩) /\ W'.cell? ⟨wr.heap.size, 3, none⟩ = some (.int .i64 x.hk) /\
         W'.cell? ⟨w.heap.size, 0, none⟩ = some (.int .i64 n) /\ W'.cell? ⟨w2.heap.size + 1, 0, none⟩ = some (.string ⟨s.toArray⟩) /\ W'.cell? ⟨w2.heap.size + 1, 1, none⟩ = some (.bool true))
        (first
          | (go_split_ands; exact ⟨zj.below (by assumption) g0, zwm g0, zwm g0, zwm g0, zwm g0, zwm g0, zwm g0, zwm g0⟩)
          | (exact ⟨h8.out, k0, k1, k2, k3, n0, n3, n4⟩)
          | go_keep)
        (first
          | (go_at_call 114; refine (za7 x _).mono ?_; rintro e wq ⟨rfl, g0⟩)
          | (go_at_call 112; refine (xu n x.high (s, true) _ (by first | assumption | exact And.left (by assumption)) HOKS.out.sch g6 h4.out).mono ?_; rintro e wq ⟨rfl, g0⟩))
       rename_i wa hba hS
       have hb7 := zsr hba g0
       have HB7 := zwh HB6 hb7
       rw [← g5.out]
       clear hb7 hba g0 hS k0 k1 k2 k3 n0 n3 n4 g5
       generalize wq = W3 at *
       rcases g1 : Q with _ | _
       ·have HQT := zwg g1
        clear g1
        exact zw5
       ·have HQT := zwg g1
        clear g1
        exact zxa
      ·have HQT : Hid (Q = true) := zwg (by rw [HQ.out, decide_eq_true (eq_of_beq g9)]; rfl)
       go_quiet (fail)
       have HB7 := zwg (below_drewN HB6.out nq)
       generalize W2.drewN nq = W3 at *
       clear k0 k1 k2 k3 n0 n3 n4
       exact zxa
    ·obtain rfl : k = l.length := by omega
     have HR : Hid (V.qa n l s = false) := zwg (by have := HZ.out; rw [List.take_length] at this; rw [HF2.out, this])
     go_wp2
     go_ret
     exact ⟨zg HR.out.symm, HBF.out⟩
namespace V
def ui (n : Int) (s : Bs) (a : Aff) : Bool := decide (a.sch = n) && decide (a.name = s)
def covP (x : Adv) (n : Int) (s v : Bs) : Bool := match x.aff.find? (ui n s) with
 | none => false
 | some a => qa a.rs a.its v && qy x
theorem zt2 {p : Aff -> Bool} : ∀ {l : List Aff} {k : Nat} (hk : k < l.length), (∀ j (h : j < l.length), j < k -> p l[j] = false) -> p l[k] = true -> l.find? p = some l[k]
 | a :: l, 0, _, _, h => by simp at h; simp [h]
 | a :: l, k + 1, hk, hn, h => by
  have h0 := hn 0 (by simp) (by omega)
  simp only [List.getElem_cons_zero] at h0
  rw [List.find?_cons_of_neg (by rw [h0]; simp)]
  simp only [List.getElem_cons_succ] at h ⊢
  exact zt2 (by simpa using hk) (fun j hj g0 => by have := hn (j + 1) (by simpa using hj) (by omega); simpa using this) h
theorem find_no {p : Aff -> Bool} {l : List Aff} (h : ∀ j (hj : j < l.length), p l[j] = false) : l.find? p = none := by
 rw [List.find?_eq_none]
 intro a ha
 obtain ⟨j, hj, rfl⟩ := List.mem_iff_getElem.1 ha
 rw [h j hj]; simp
end V
theorem zw2 {P : Prop} (h : P := by
 have hcase : (a.sch == n) = false /\ ¬ a.sch = n ∨ (a.sch == n) = true /\ a.sch = n /\ (a.name == s) = false /\ ¬ a.name = s := by
  rw [HPK.out, Bool.and_eq_false_iff, decide_eq_false_iff_not, decide_eq_false_iff_not] at hpf
  by_cases h1 : a.sch = n
  ·rcases hpf with h | h
   ·exact absurd h1 h
   ·exact .inr ⟨by simpa using h1, h1, by rw [zwk]; exact h, h⟩
  ·exact .inl ⟨by rw [zwk]; exact h1, h1⟩
 clear hp hpf HNX HAT HPK
 rcases hcase with ⟨q1, q2⟩ | ⟨q1, q2, q3, q4⟩
 ·go_wp2
  go_roundw
  case rel => exact ⟨k + 1, by omega, by go_num, HNY.out, HB2.out⟩
  case measure => simp [intOf]; omega
 ·subst q2
  go_wp2
  go_roundw
  case rel => exact ⟨k + 1, by omega, by go_num, HNY.out, HB2.out⟩
  case measure => simp [intOf]; omega) : P := h
theorem zz0 {P : Prop} (h : P := by
 go_wp2
 go_ret
 exact ⟨zg HR.out.symm, HB.out.trans (HB3.out.mono HB.out.size)⟩) : P := h
theorem zez (x : V.Adv) (v : Value) (n : Int) (s ver : V.Bs) (w : World) (hm : zj w) (hv : Affs w v x.aff) (g2 : x.id.length ≤ maxLen) (hl : x.aff.length ≤ maxLen) (hs : ver.length ≤ maxLen) :
  Calls Tryz.prog 48 #[advV x v, .int .i64 n, .string ⟨s.toArray⟩, .string ⟨ver.toArray⟩] w fun e w' => e = .returned (.bool (V.covP x n s ver)) /\ Below w.heap.size w w' := by
 obtain ⟨pa, pc, rfl⟩ := hv.slice
 obtain ⟨hb, c0, c1, c2, c3⟩ := zi2 x (.slice pa x.aff.length pc) w
 have HM := zwg (hm.below hb)
 have HV := zwg (hv.below hb)
 have HB := zwg hb
 have HI := zwg (And.intro g2 (And.intro hl hs))
 unfold maxLen at hl
 clear hm hv g2 hb hs
 unfold advV
 go_enter Tryz.func48, Tryz.ntmps48
 go_wp2_with fail
 generalize w.alloc (.cells #[.string ⟨x.id.toArray⟩, .int .i64 x.rev, .int .i64 x.sev, .slice pa x.aff.length pc] 54) = w0 at *
 go_loopw [14] (fun iv W => ∃ k : Nat, k ≤ x.aff.length /\ iv = .int .i64 k /\ (∀ j (h : j < x.aff.length), j < k -> V.ui n s x.aff[j] = false) /\ Below w0.heap.size w0 W) (fun iv _ => x.aff.length - (intOf iv).toNat)
 case atStart => exact ⟨0, Nat.zero_le _, rfl, (fun j _ h => absurd h (Nat.not_lt_zero _)), zwj _ _⟩
 case round =>
  obtain ⟨k, hk, rfl, g3, g4⟩ := hrel
  have HNO := zwg g3
  have g0 := zwg g4
  clear g3 g4
  by_cases hlt : k < x.aff.length
  ·obtain ⟨g5, b, off, ua, uc, rfl, h4, ha⟩ := HV.out.at k hlt
   have g6 := zwg (HV.out.below g0.out)
   have HW := zwg g5
   have HA := zwg (ha.below g0.out)
   have HAT := zwg (V.zt2 (p := V.ui n s) hlt HNO.out)
   have HNX : Hid (V.ui n s x.aff[k] = false -> ∀ j (h : j < x.aff.length), j < k + 1 -> V.ui n s x.aff[j] = false) := zwg (fun hf j h hj => by
     by_cases e : j = k
     · subst e; exact hf
     · exact HNO.out j h (by omega))
   generalize x.aff[k] = a at *
   have HPK : Hid (V.ui n s a = (decide (a.sch = n) && decide (a.name = s))) := zwg rfl
   have e0 := HA.out.c0
   have e1 := HA.out.c1
   have e2 := HA.out.c2
   have e3 := HA.out.c3
   have i1 : (0 : Int) ≤ (k : Int) := by omega
   have i2 : (k : Int) < (x.aff.length : Int) := by omega
   have wr1 : IntKind.i64.wrap ((k : Int) + 1) = (k : Int) + 1 := IntWalk.i64_in _ (by omega)
   obtain ⟨hb2, d0, d1, d2, d3⟩ := zga a (.slice ua a.its.length uc) wr
   have h0 := zwg (HA.out.its.below hb2)
   have HB2 := zwh g0 hb2
   have g7 := zwg (HM.out.below HB2.out)
   have h1 := zwg (g6.out.below hb2)
   have b0 := zf HB2.out c0
   have b1 := zf HB2.out c1
   have b2 := zf HB2.out c2
   have b3 := zf HB2.out c3
   clear hb2 g5 ha HA g6
   by_cases hp : V.ui n s a = true
   ·have g8 : Hid (V.covP x n s ver = (V.qa a.rs a.its ver && V.qy x)) := zwg (by unfold V.covP; rw [HAT.out hp])
    rw [HPK.out, Bool.and_eq_true, decide_eq_true_eq, decide_eq_true_eq] at hp
    have q1 : (a.sch == n) = true := by simpa using hp.1
    have q2 : (a.name == s) = true := by simpa using hp.2
    have q3 := hp.1
    have q4 := hp.2
    clear hp HNX HAT HPK
    subst q3
    subst q4
    go_wp2_with fail
    generalize wr.alloc (.cells #[.int .i64 a.sch, .string ⟨a.name.toArray⟩, .int .i64 a.rs, .slice ua a.its.length uc] 70) = w2 at *
    refine (zjo a.rs (.slice ua a.its.length uc) a.its ver w2 g7.out h0.out HW.out.lens HW.out.len HI.out.2.2).mono ?_
    rintro e w3 ⟨rfl, hb3⟩
    have HB3 := zwh HB2 hb3
    have h2 := zwg (g7.out.below hb3)
    have h3 := zwg (h1.out.below hb3)
    replace b0 := zf hb3 b0
    replace b1 := zf hb3 b1
    replace b2 := zf hb3 b2
    replace b3 := zf hb3 b3
    clear hb3
    rcases g1 : V.qa a.rs a.its ver with _ | _
    ·have HR : Hid (V.covP x a.sch a.name ver = false) := zwg (by rw [g8.out, g1]; rfl)
     clear g1
     exact zz0
    ·have HR : Hid (V.covP x a.sch a.name ver = V.qy x) := zwg (by rw [g8.out, g1]; rfl)
     clear g1
     go_wp2_with fail
     refine (znf x (.slice (some ⟨b, off, none⟩) x.aff.length pc) w3 h2.out h3.out HI.out.1 HI.out.2.1).mono ?_
     rintro e w4 ⟨rfl, g9⟩
     have HB4 := zwh HB3 g9
     clear g9
     go_wp2
     go_ret
     exact ⟨zg HR.out.symm, HB.out.trans (HB4.out.mono HB.out.size)⟩
   ·have hpf : V.ui n s a = false := by simpa using hp
    have HNY := zwg (HNX.out hpf)
    exact zw2
  ·obtain rfl : k = x.aff.length := by omega
   have HR : Hid (V.covP x n s ver = false) := zwg (by unfold V.covP; rw [V.find_no (fun j hj => HNO.out j hj hj)])
   go_wp2
   go_ret
   exact ⟨zg HR.out.symm, HB.out.trans (g0.out.mono HB.out.size)⟩
open Go.RowKit
theorem zle (x : V.Adv) (v : Value) (w : World) (hm : zj w) (hv : Affs w v x.aff) (h5 : x.id.length ≤ maxLen) (hl : x.aff.length ≤ maxLen) :
  Calls Tryz.prog 55 #[advV x v] w fun e w' => e = .returned (.bool (V.qy x)) /\ Below w.heap.size w w' := by
 obtain ⟨pa, pc, rfl⟩ := hv.slice
 obtain ⟨hb, c0, c1, c2, c3⟩ := zi2 x (.slice pa x.aff.length pc) w
 have HM := zwg (hm.below hb)
 have HV := zwg (hv.below hb)
 have HI : Hid ((⟨x.id.toArray⟩ : ByteArray).size ≤ maxLen) := zwg (by rw [znk]; exact h5)
 have HB := zwg hb
 have HBX : Hid (w.heap.size < (w.alloc (.cells #[.string ⟨x.id.toArray⟩, .int .i64 x.rev, .int .i64 x.sev, .slice pa x.aff.length pc] 54)).heap.size) := zwg (by simp)
 unfold maxLen at hl
 clear hm hv h5 hb
 unfold advV
 go_enter Tryz.func55, Tryz.ntmps55
 go_wp2_with fail
 generalize w.alloc (.cells #[.string ⟨x.id.toArray⟩, .int .i64 x.rev, .int .i64 x.sev, .slice pa x.aff.length pc] 54) = w0 at *
 refine (zng ⟨x.id.toArray⟩ w0 HI.out).mono ?_
 rintro e w' ⟨rfl, h6⟩
 obtain rfl := h6.symm
 clear h6
 rw [zag]
 by_cases g0 : V.xw x.id = true
 case neg =>
  exact zx6
 rw [g0]
 by_cases g1 : 1 ≤ x.rev
 case neg =>
  have HR : Hid (V.qy x = false) := zwg (by
    rcases h : V.qy x with _ | _
    · rfl
    · have hp := V.kj h
      exact absurd hp.rev0 g1)
  have f1 : x.rev < 1 := by omega
  clear g1
  exact zya
 have f1 : ¬ x.rev < 1 := by omega
 by_cases g2 : x.rev ≤ 1099511627776
 case neg =>
  have HR : Hid (V.qy x = false) := zwg (by
    rcases h : V.qy x with _ | _
    · rfl
    · have hp := V.kj h
      exact absurd hp.rev1 g2)
  have f2 : (1099511627776 : Int) < x.rev := by omega
  clear g2
  exact zya
 have f2 : ¬ (1099511627776 : Int) < x.rev := by omega
 by_cases g3 : 1 ≤ x.sev
 case neg =>
  have HR : Hid (V.qy x = false) := zwg (by
    rcases h : V.qy x with _ | _
    · rfl
    · have hp := V.kj h
      exact absurd hp.sev0 g3)
  have f3 : x.sev < 1 := by omega
  clear g3
  exact zya
 have f3 : ¬ x.sev < 1 := by omega
 by_cases g4 : x.sev ≤ 10
 case neg =>
  have HR : Hid (V.qy x = false) := zwg (by
    rcases h : V.qy x with _ | _
    · rfl
    · have hp := V.kj h
      exact absurd hp.sev1 g4)
  have f4 : (10 : Int) < x.sev := by omega
  clear g4
  exact zya
 have f4 : ¬ (10 : Int) < x.sev := by omega
 by_cases g5 : x.aff.length ≤ 16
 case neg =>
  exact zx9
 have f5 : ¬ (16 : Int) < (x.aff.length : Int) := by omega
 have HOK : Hid (V.qy x = V.yv x.aff x.aff.length) := zwg (by
   unfold V.qy V.zi1
   rw [g0, decide_eq_true g1, decide_eq_true g2, decide_eq_true g3, decide_eq_true g4, decide_eq_true g5]
   rfl)
 clear g0 g1 g2 g3 g4
 go_wp2_with fail
 go_loopw [3] (fun iv W => ∃ k : Nat, k ≤ x.aff.length /\ iv = .int .i64 k /\ V.yv x.aff k = true /\ Below w0.heap.size w0 W) (fun iv _ => x.aff.length - (intOf iv).toNat)
 case atStart => exact ⟨0, Nat.zero_le _, rfl, rfl, zwj _ _⟩
 case round =>
  obtain ⟨k, hk, rfl, h7, g9⟩ := hrel
  have HTO := zwg h7
  have h0 := zwg g9
  have HBW := zwh HB g9
  have c3r := zf g9 c3
  clear h7 g9
  by_cases hlt : k < x.aff.length
  ·obtain ⟨h8, b, off, ua, uc, rfl, k7, ha⟩ := HV.out.at k hlt
   have j9 := zwg (HV.out.below h0.out)
   have HW := zwg h8
   have HA := zwg (ha.below h0.out)
   have HST := zwg (V.zdi hlt)
   have HNO := zwg (V.zqd hlt)
   have HAT : Hid (V.zdy x.aff k x.aff[k] = ((decide (k = 0) || decide (V.affC (x.aff.getD (k - 1) V.zA) x.aff[k] < 0)) && V.xl x.aff[k])) := zwg rfl
   generalize x.aff[k] = a at *
   have h1 : Hid (V.xl a = (V.jx a.name && V.zdm a.sch a.rs a.its)) := zwg rfl
   have k4 : Hid ((⟨a.name.toArray⟩ : ByteArray).size ≤ maxLen) := zwg (by rw [znk]; exact HW.out.name)
   have e0 := HA.out.c0
   have e1 := HA.out.c1
   have e2 := HA.out.c2
   have e3 := HA.out.c3
   have i1 : (0 : Int) ≤ (k : Int) := by omega
   have i2 : (k : Int) < (x.aff.length : Int) := by omega
   have wr1 : IntKind.i64.wrap ((k : Int) + 1) = (k : Int) + 1 := IntWalk.i64_in _ (by omega)
   have hb2 : Below wr.heap.size wr (wr.alloc (.cells #[.int .i64 a.sch, .string ⟨a.name.toArray⟩, .int .i64 a.rs, .slice ua a.its.length uc] 70)) := (zwj _ wr).alloc (zwi _) _
   obtain ⟨_, d0, d1, d2, d3⟩ := zga a (.slice ua a.its.length uc) wr
   have h9 := zwg (HA.out.its.below hb2)
   have HB2 := zwh h0 hb2
   have h2 := zwg (HM.out.below HB2.out)
   have j0 := zwg (j9.out.below hb2)
   clear hb2 h8 ha
   go_wp2_with fail
   generalize wr.alloc (.cells #[.int .i64 a.sch, .string ⟨a.name.toArray⟩, .int .i64 a.rs, .slice ua a.its.length uc] 70) = w2 at *
   generalize wr.heap.size = X at *
   clear e0 e1 e2 e3 c3r
   refine (zv2 ⟨a.name.toArray⟩ w2 h2.out k4.out).mono ?_
   rintro e w3 ⟨rfl, hb3⟩
   rw [zag]
   have HB3 := zwh HB2 hb3
   have j3 := zwg (h2.out.below hb3)
   have j4 := zwg (j0.out.below hb3)
   have j5 := zwg (h9.out.below hb3)
   replace d0 := zf hb3 d0
   replace d1 := zf hb3 d1
   replace d2 := zf hb3 d2
   replace d3 := zf hb3 d3
   clear hb3 h9 j0 h2 HB2 HA
   by_cases hp : V.jx a.name = true
   case neg =>
    have h3 : V.jx a.name = false := by simpa using hp
    have HR : Hid (V.qy x = false) := zwg (by rw [HOK.out]; exact HNO.out (by rw [HAT.out, h1.out, h3]; simp))
    rw [h3]
    clear hp h3
    exact zz0
   rw [hp]
   have HP := zwg hp
   clear hp
   go_wp2_with fail
   refine (znx a.sch a.rs a.its ua uc w3 j3.out j5.out HW.out.lens HW.out.len).mono ?_
   rintro e w4 ⟨rfl, g7⟩
   have HB4 := zwh HB3 g7
   have k5 := zwg (j4.out.below g7)
   replace d0 := zf g7 d0
   replace d1 := zf g7 d1
   clear g7 j5 j4 j3 HB3 d2 d3
   by_cases hg : V.zdm a.sch a.rs a.its = true
   case neg =>
    have h4 : V.zdm a.sch a.rs a.its = false := by simpa using hg
    have HR : Hid (V.qy x = false) := zwg (by rw [HOK.out]; exact HNO.out (by rw [HAT.out, h1.out, h4]; simp))
    rw [h4]
    clear hg h4
    go_wp2
    go_ret
    exact ⟨zg HR.out.symm, HB.out.trans (HB4.out.mono HB.out.size)⟩
   rw [hg]
   have HSO : Hid (V.xl a = true) := zwg (by rw [h1.out, HP.out, hg]; rfl)
   rw [HSO.out] at HAT
   clear hg
   have j6 := zf HB4.out c3
   rcases Nat.eq_zero_or_pos k with g8 | g8
   ·subst g8
    have HY : Hid (V.yv x.aff (0 + 1) = true) := zwg (by rw [HST.out, HTO.out, HAT.out]; rfl)
    go_wp2_with fail
    refine wp_region_held_drew (S := (fun W' => Below w4.heap.size w4 W')) (by kernel_rfl) (by (try dsimp only); exact (zwj _ _).drew) (fun hHeld => ?_)
    refine tk 0 ?_
    refine tk 1 ?_
    refine tk 2 ?_
    refine tu 3 ?_
    refine tu 4 ?_
    refine tu 5 ?_
    refine tu 6 ?_
    refine tu 7 ?_
    refine tu 8 ?_
    refine tu 9 ?_
    refine tu 10 ?_
    refine tu 11 ?_
    refine tu 12 ?_
    refine tu 13 ?_
    refine tu 14 ?_
    refine tu 15 ?_
    refine tu 16 ?_
    refine tu 17 ?_
    refine tu 18 ?_
    refine tu 19 ?_
    refine tu 20 ?_
    refine tu 21 ?_
    refine tu 22 ?_
    refine tu 23 ?_
    refine tu 24 ?_
    refine tk 25 ?_
    refine wpAnyH_done (by kernel_rfl) ?_ _
    have HBE := zwg (HB4.out.trans ((show Below w4.heap.size w4 w4.drew from hHeld).mono HB4.out.size))
    clear hHeld
    exact z0e
   ·obtain ⟨j, hj⟩ : ∃ j, k = j + 1 := ⟨k - 1, by omega⟩
    have hjl : j < x.aff.length := by omega
    obtain ⟨_, b', off', up, ucp, e', _, hp⟩ := k5.out.at j hjl
    cases e'
    have j7 : Hid (x.aff.getD (k - 1) V.zA = x.aff[j]) := zwg (by rw [hj, Nat.add_sub_cancel, List.getD_eq_getElem?_getD, List.getElem?_eq_getElem hjl]; rfl)
    rw [j7.out] at HAT
    clear j7
    generalize x.aff[j] = p at *
    have q0 := hp.c0
    have q1 := hp.c1
    have wk : IntKind.i64.wrap ((k : Int) - 1) = (j : Int) := by rw [hj, IntWalk.i64_in _ (by omega)]; omega
    have j1 : (0 : Int) ≤ (j : Int) := by omega
    have j2 : (j : Int) < (x.aff.length : Int) := by omega
    have k0 : (0 : Int) < (k : Int) := by omega
    have k1 : decide ((0 : Int) < (k : Int)) = true := decide_eq_true k0
    have k2 : decide (0 < k) = true := decide_eq_true g8
    have k3 : 0 < k := g8
    have j8 : Hid (decide (k = 0) = false) := zwg (decide_eq_false (by omega))
    rw [j8.out, Bool.false_or, Bool.and_true] at HAT
    clear hp hj j8 g8
    obtain ⟨r, hr⟩ : ∃ r, decide (V.affC p a < 0) = r := ⟨_, rfl⟩
    have k6 : Hid (decide (V.orI [Lib.compareInt p.sch a.sch, Lib.compareBytes p.name a.name] < 0) = r) := zwg hr
    rw [hr] at HAT
    clear hr c3
    have c3 := j6
    clear j6
    go_wp2_with fail
    refine wp_region_held_drew (S := (fun W' => Below w4.heap.size w4 W' /\ W'.cell? ⟨w.heap.size, 3, none⟩ = some (.slice (some ⟨b, off, none⟩) x.aff.length pc) /\ W'.cell? ⟨b, off + j * 4, none⟩ = some (.int .i64 p.sch) /\ W'.cell? ⟨b, off + j * 4 + 1, none⟩ = some (.string ⟨p.name.toArray⟩) /\ W'.cell? ⟨X, 0, none⟩ = some (.int .i64 a.sch) /\ W'.cell? ⟨X, 1, none⟩ = some (.string ⟨a.name.toArray⟩))) (by kernel_rfl) (by (try dsimp only); exact ⟨(zwj _ _).drew, zf (zwj _ _).drew c3, zf (zwj _ _).drew q0, zf (zwj _ _).drew q1, zf (zwj _ _).drew d0, zf (zwj _ _).drew d1⟩) (fun hHeld => ?_)
    refine tk 0 ?_
    refine tk 1 ?_
    refine tk 2 ?_
    refine tk 3 ?_
    refine tk 4 ?_
    refine tk 5 ?_
    refine wpAnyH_take (i := 6) (v := (.int .i64 (j : Int))) rfl (by kernel_rfl) (by kernel_rfl) (by kernel_rfl) (fun _ _ _ h => h) (Or.inl ⟨by rfl, fun w' hSw => by go_simp; try rfl⟩) (by assumption) ?_
    try simp only [zwb, zwc, zwd, Act.put, zwe, List.set_cons_succ, List.set_cons_zero]
    refine tk 7 ?_
    refine tk 8 ?_
    refine tk 9 ?_
    refine tk 10 ?_
    refine tk 11 ?_
    refine tk 12 ?_
    refine wpAnyH_take (i := 13) (v := (.int .i64 (j : Int))) rfl (by kernel_rfl) (by kernel_rfl) (by kernel_rfl) (fun _ _ _ h => h) (Or.inl ⟨by rfl, fun w' hSw => by go_simp; try rfl⟩) (by assumption) ?_
    try simp only [zwb, zwc, zwd, Act.put, zwe, List.set_cons_succ, List.set_cons_zero]
    refine tk 14 ?_
    refine tk 15 ?_
    refine tk 16 ?_
    refine tk 17 ?_
    refine tk 18 ?_
    refine tk 19 ?_
    refine tk 20 ?_
    refine tk 21 ?_
    refine tk 22 ?_
    refine rd 23 fun K hK => ?_
    go_simp
    refine (zhs p.sch a.sch p.name a.name _).mono ?_
    rintro e wy23 ⟨rfl, g6⟩
    try dsimp only
    rw [k6.out]
    refine hK.out _ _ ?_ (fun hHeld => nx ?_)
    ·(try dsimp only); go_split_ands; exact ⟨Below.trans (by assumption) (g6.mono (Below.size (by assumption))), zwm g6, zwm g6, zwm g6, zwm g6, zwm g6⟩
    clear hK K
    refine tk 24 ?_
    refine tk 25 ?_
    refine wpAnyH_done (by kernel_rfl) ?_ _
    have HBE := zwg (HB4.out.trans ((show Below w4.heap.size w4 wy23 from hHeld.1).mono HB4.out.size))
    clear hHeld
    rcases r with _ | _
    ·have HR : Hid (V.qy x = false) := zwg (by rw [HOK.out]; exact HNO.out HAT.out)
     exact zyy
    ·have HY : Hid (V.yv x.aff (k + 1) = true) := zwg (by rw [HST.out, HTO.out, HAT.out]; rfl)
     exact z0d
  ·exact zy8
end Go.Proofs.YtbikeahmldobkaaGreatDoor

/-
  Lemmas for the law.
-/
import Derived.Test.YtbikeahmldobkaaGreatDoorC51x21
import Derived.Test.YtbikeahmldobkaaGreatDoorC51x19
import Derived.Test.YtbikeahmldobkaaGreatDoorC51x04
import Derived.Test.YtbikeahmldobkaaGreatDoorC51x02
import Derived.Laws.AppendOwn
import Derived.OwnWalk
import Derived.Maps.AppendAt
import Derived.Deep.MidRow
set_option linter.all false
set_option maxRecDepth 100000
set_option maxHeartbeats 3200000
namespace Go.Proofs.YtbikeahmldobkaaGreatDoor
open Go.RowKit
theorem zwa {P : Prop} (h : P := by
 go_enter Tryz.func96, Tryz.ntmps96
 go_wp2_with fail
 generalize w.alloc (.cells #[.int .i64 n, .slice va l.length vc] 68) = w0 at *
 refine (zbb n w0).mono ?_
 rintro e w' ⟨rfl, rfl⟩
 rw [HSC.out]
 go_wp2
 go_ret
 exact ⟨ze HR.out.symm, HB0.out⟩) : P := h
theorem zw8 {P : Prop} (h : P := by
 (try dsimp only); go_split_ands; exact ⟨zj.below (by assumption) hbc23, zve hbc23, zve hbc23, zve hbc23, zve hbc23, zve hbc23, zve hbc23, zve hbc23, zve hbc23, zve hbc23, zve hbc23⟩) : P := h
theorem zw9 {P : Prop} (h : P := by
 (try dsimp only); go_split_ands; exact ⟨zj.below (by assumption) hbc22, zve hbc22, zve hbc22, zve hbc22, zve hbc22, zve hbc22, zve hbc22, zve hbc22, zve hbc22, zve hbc22, zve hbc22⟩) : P := h
theorem zx3 {P : Prop} (h : P := by
 (try dsimp only); go_split_ands; exact ⟨zj.below (by assumption) hbc6, zve hbc6, zve hbc6, zve hbc6, zve hbc6, zve hbc6, zve hbc6⟩) : P := h
theorem zx4 {P : Prop} (h : P := by
 (try dsimp only); go_split_ands; exact ⟨zj.below (by assumption) hbc5, zve hbc5, zve hbc5, zve hbc5, zve hbc5, zve hbc5, zve hbc5⟩) : P := h
theorem zx5 {P : Prop} (h : P := by
 (try dsimp only); go_split_ands; exact ⟨zj.below (by assumption) hbc3, zve hbc3, zve hbc3, zve hbc3, zve hbc3, zve hbc3, zve hbc3⟩) : P := h
theorem zgr (n : Int) (v : Value) (l : List V.Itv) (w : World) (hm : zj w) (hv : Itvs w v l) (hs : Lens l) (hl : l.length ≤ maxLen) :
  Calls Tryz.prog 96 #[setV n v] w fun e w' => e = .returned (.bool (V.okR n l)) /\ Below w.heap.size w w' := by
 have HV := zu8 hv
 obtain ⟨va, vc, rfl⟩ := hv.slice
 unfold maxLen at hl
 have HS := zu8 hs
 have HF : Hid (V.okR n l = (V.scheme n && (decide (l.length ≤ 32) && (l.all (V.zt n) && V.ordB n l)))) := zu8 rfl
 have g5 : Below w.heap.size w (w.alloc (.cells #[.int .i64 n, .slice va l.length vc] 68)) := (zvb _ w).alloc (zva _) _
 have HB0 := zu8 g5
 have HM := zu8 (hm.below g5)
 have c0 : (w.alloc (.cells #[.int .i64 n, .slice va l.length vc] 68)).cell? ⟨w.heap.size, 0, none⟩ = some (.int .i64 n) := by simp [zg]
 have c1 : (w.alloc (.cells #[.int .i64 n, .slice va l.length vc] 68)).cell? ⟨w.heap.size, 1, none⟩ = some (.slice va l.length vc) := by simp [zg]
 clear hv hs g5 hm
 unfold setV
 rcases g6 : V.scheme n with _ | _
 ·have HR : Hid (V.okR n l = false) := zu8 (by rw [HF.out, g6]; rfl)
  have HSC := zu8 g6
  clear g6
  exact zwa
 ·have HSC := zu8 g6
  clear g6
  by_cases h32 : 32 < l.length
  ·have HR : Hid (V.okR n l = false) := zu8 (by rw [HF.out, decide_eq_false (show ¬ l.length ≤ 32 by omega), Bool.false_and, Bool.and_false])
   exact zwa
  ·have j8 : l.length ≤ 32 := by omega
   have HF2 : Hid (V.okR n l = (l.all (V.zt n) && V.ordB n l)) := zu8 (by rw [HF.out, HSC.out, decide_eq_true j8]; rfl)
   have g4 : w.heap.size < (w.alloc (.cells #[.int .i64 n, .slice va l.length vc] 68)).heap.size := by simp
   go_enter Tryz.func96, Tryz.ntmps96
   go_wp2_with fail
   generalize w.alloc (.cells #[.int .i64 n, .slice va l.length vc] 68) = w0 at *
   refine (zbb n w0).mono ?_
   rintro e w' ⟨rfl, rfl⟩
   rw [HSC.out]
   go_wp2
   go_loopw [3] (fun iv wx => ∃ k : Nat, k ≤ l.length /\ iv = .int .i64 k /\ (l.take k).all (V.zt n) = true /\ Below w0.heap.size w0 wx) (fun iv _ => l.length - (intOf iv).toNat)
   case atStart => exact ⟨0, Nat.zero_le _, rfl, rfl, zvb _ _⟩
   case round =>
    obtain ⟨k, hk, rfl, hz, g2⟩ := hrel
    have HZ := zu8 hz
    have HBX := zu8 g2
    have HBF := zu9 HB0 g2
    have d0 := (g2.cell (p := ⟨w.heap.size, 0, none⟩) g4).trans c0
    have d1 := (g2.cell (p := ⟨w.heap.size, 1, none⟩) g4).trans c1
    clear hz g2
    by_cases hlt : k < l.length
    ·obtain ⟨b, off, rfl, g5, hx⟩ := HV.out.at k hlt
     obtain ⟨h0, h1, h2, h3⟩ := hx.below g5 HBF.out
     have k1 : (0 : Int) ≤ (k : Int) := by omega
     have k4 : (k : Int) < (l.length : Int) := by omega
     have h7 := HS.out _ (List.getElem_mem hlt)
     have HBD : Hid (V.zt n l[k] = (V.jg n l[k].lo l[k].lk && V.jg n l[k].hi l[k].hk)) := zu8 rfl
     have HYES := zu8 (fun hb => zn8 (n := n) HZ.out hlt hb)
     have HNO := zu8 (fun hb => bnd_no (n := n) hlt hb)
     clear hx
     generalize l[k] = x at *
     have hbA : Below wr.heap.size wr (wr.alloc (.cells #[.string ⟨x.lo.toArray⟩, .int .i64 x.lk, .string ⟨x.hi.toArray⟩, .int .i64 x.hk] 83)) := (zvb _ wr).alloc (zva _) _
     have g7 := zu8 ((HM.out.below HBX.out).below hbA)
     have g8 := zu9 HBX hbA
     have e0 := zb hbA d0
     have g9 : zcv (wr.alloc (.cells #[.string ⟨x.lo.toArray⟩, .int .i64 x.lk, .string ⟨x.hi.toArray⟩, .int .i64 x.hk] 83)) wr.heap.size 0 x := by
      refine ⟨?_, ?_, ?_, ?_⟩ <;> simp [zg]
     have h9 := zu8 g9
     clear hbA g9
     go_wp2_with fail
     generalize wr.alloc (.cells #[.string ⟨x.lo.toArray⟩, .int .i64 x.lk, .string ⟨x.hi.toArray⟩, .int .i64 x.hk] 83) = W1 at *
     obtain ⟨f0, f1, f2, f3⟩ := h9.out
     rw [Nat.zero_add] at f1 f2 f3
     clear h0 h1 h2 h3 d0 d1
     refine (zg9 n x.lo x.lk W1 g7.out h7.1).mono ?_
     rintro e W2 ⟨rfl, hb2⟩
     have k0 := zb hb2 e0
     have k2 := zb hb2 f2
     have k3 := zb hb2 f3
     have HB2 := zu9 g8 hb2
     have k5 := zu8 (g7.out.below hb2)
     clear hb2 e0 f0 f1 f2 f3
     rcases hlo : V.jg n x.lo x.lk with _ | _
     ·exact zw5
     ·have HLO := zu8 hlo
      clear hlo
      go_wp2_with fail
      refine (zg9 n x.hi x.hk W2 k5.out h7.2).mono ?_
      exact zvx
    ·obtain rfl : k = l.length := by omega
     have h4 : Hid (∀ x ∈ l, V.zt n x = true) := zu8 (by have := HZ.out; rw [List.take_length] at this; exact List.all_eq_true.1 this)
     have HF3 : Hid (V.okR n l = V.ordB n l) := zu8 (by rw [HF2.out, List.all_eq_true.2 h4.out]; rfl)
     have k6 := zu8 (HM.out.below HBX.out)
     have j7 : w.heap.size < wr.heap.size := Nat.lt_of_lt_of_le g4 HBX.out.size
     have HD := zu8 (And.intro d0 d1)
     obtain ⟨wo, k7⟩ : ∃ wo : World, wo = wr := ⟨_, rfl⟩
     subst k7
     go_wp2
     clear d0 d1
     go_loopw [5] (fun iv wx => ∃ k : Nat, k ≤ l.length /\ iv = .int .i64 k /\ (∀ i, i < k -> V.okAt n l i = true) /\ Below wo.heap.size wo wx) (fun iv _ => l.length - (intOf iv).toNat)
     case atStart => exact ⟨0, Nat.zero_le _, rfl, fun i hi => by omega, zvb _ _⟩
     case round =>
      obtain ⟨k, hk, rfl, hz, g2⟩ := hrel
      have HZ := zu8 hz
      have HBX := zu8 g2
      have j0 := zu9 HBF g2
      have d0 := (g2.cell (p := ⟨w.heap.size, 0, none⟩) j7).trans HD.out.1
      have d1 := (g2.cell (p := ⟨w.heap.size, 1, none⟩) j7).trans HD.out.2
      clear hz g2
      by_cases hlt : k < l.length
      ·obtain ⟨b, off, rfl, g5, hx⟩ := HV.out.at k hlt
       obtain ⟨h0, h1, h2, h3⟩ := hx.below g5 j0.out
       have k1 : (0 : Int) ≤ (k : Int) := by omega
       have k4 : (k : Int) < (l.length : Int) := by omega
       have g3 : Hid (V.zt n l[k] = true) := zu8 (h4.out _ (List.getElem_mem hlt))
       have HG := zu8 (zh2 hlt)
       clear hx
       generalize l[k] = x at *
       have hbA : Below wr.heap.size wr (wr.alloc (.cells #[.string ⟨x.lo.toArray⟩, .int .i64 x.lk, .string ⟨x.hi.toArray⟩, .int .i64 x.hk] 83)) := (zvb _ wr).alloc (zva _) _
       have g7 := zu8 ((k6.out.below HBX.out).below hbA)
       have g8 := zu9 j0 hbA
       have h5 := zu9 HBX hbA
       have e0 := zb hbA d0
       have e1 := zb hbA d1
       have g9 : zcv (wr.alloc (.cells #[.string ⟨x.lo.toArray⟩, .int .i64 x.lk, .string ⟨x.hi.toArray⟩, .int .i64 x.hk] 83)) wr.heap.size 0 x := by
        refine ⟨?_, ?_, ?_, ?_⟩ <;> simp [zg]
       have h9 := zu8 g9
       clear hbA g9
       go_wp2_with fail
       generalize wr.alloc (.cells #[.string ⟨x.lo.toArray⟩, .int .i64 x.lk, .string ⟨x.hi.toArray⟩, .int .i64 x.hk] 83) = W1 at *
       obtain ⟨f0, f1, f2, f3⟩ := h9.out
       rw [Nat.zero_add] at f1 f2 f3
       clear h0 h1 h2 h3 d0 d1
       obtain ⟨z, hz⟩ : ∃ z, z = V.ecmp n (V.eLow x) (V.km x) := ⟨_, rfl⟩
       have HIN : Hid (V.xw n x = decide (z < 0)) := zu8 (by rw [hz]; exact (V.zpy g3.out).symm)
       have hc1 := ye n (V.eLow x) (V.km x)
       rw [← hz] at hc1
       have j1 := zu8 hc1
       clear hz hc1
       have j2 : Hid (V.okAt n l k = (decide (z < 0) && (decide (k = 0) || V.zap n (l.getD (k - 1) V.noI) x))) := zu8 (by unfold V.okAt; rw [HG.out, HIN.out])
       by_cases g4 : 0 ≤ z
       ·have HNO : Hid (V.ordB n l = false) := zu8 (zgd hlt (by rw [j2.out, decide_eq_false (show ¬ z < 0 by omega)]; rfl))
        have hd : decide (0 ≤ z) = true := decide_eq_true g4
        clear g4
        refine wp_region_held_drew (S := (fun W' => zj W' /\ W'.cell? ⟨w.heap.size, 0, none⟩ = some (.int .i64 n) /\ W'.cell? ⟨w.heap.size, 1, none⟩ = some (.slice (some ⟨b, off, none⟩) l.length vc) /\ W'.cell? ⟨wr.heap.size, 0, none⟩ = some (.string ⟨x.lo.toArray⟩) /\ W'.cell? ⟨wr.heap.size, 1, none⟩ = some (.int .i64 x.lk) /\ W'.cell? ⟨wr.heap.size, 2, none⟩ = some (.string ⟨x.hi.toArray⟩) /\ W'.cell? ⟨wr.heap.size, 3, none⟩ = some (.int .i64 x.hk))) (by kernel_rfl) (by (try dsimp only); (try simp only [World.cell?_drew]); exact ⟨g7.out.below (zvb _ _).drew, e0, e1, f0, f1, f2, f3⟩) (fun hHeld => ?_)
        refine tk 0 ?_
        refine tk 1 ?_
        refine tk 2 ?_
        refine tk 4 ?_
        refine rd 3 fun K hK => ?_
        go_simp
        refine (uu x _).mono ?_
        rintro e wc3 ⟨rfl, hbc3⟩
        try dsimp only
        refine hK.out _ _ ?_ (fun hHeld => ?_)
        ·exact zx5
        clear hK K
        try simp only [zu3, zu4, zu5, Act.put, zu6, List.set_cons_succ, List.set_cons_zero]
        refine rd 5 fun K hK => ?_
        go_simp
        refine (vi x _).mono ?_
        rintro e wc5 ⟨rfl, hbc5⟩
        try dsimp only
        refine hK.out _ _ ?_ (fun hHeld => ?_)
        ·exact zx4
        clear hK K
        try simp only [zu3, zu4, zu5, Act.put, zu6, List.set_cons_succ, List.set_cons_zero]
        refine rd 6 fun K hK => ?_
        go_simp
        refine (j1.out _ (by first | assumption | exact And.left (by assumption)) HSC.out (V.zaa g3.out) (V.zam g3.out)).mono ?_
        rintro e wc6 ⟨rfl, hbc6⟩
        try dsimp only
        refine hK.out _ _ ?_ (fun hHeld => ?_)
        ·exact zx3
        clear hK K
        try simp only [zu3, zu4, zu5, Act.put, zu6, List.set_cons_succ, List.set_cons_zero]
        refine tk 7 ?_
        refine tk 8 ?_
        refine tu 9 ?_
        refine tu 10 ?_
        refine tu 11 ?_
        refine tu 12 ?_
        refine tu 13 ?_
        refine tu 14 ?_
        refine tu 15 ?_
        refine tu 16 ?_
        refine tu 17 ?_
        refine tu 18 ?_
        refine tu 19 ?_
        refine tu 20 ?_
        refine tu 21 ?_
        refine tu 22 ?_
        refine tu 23 ?_
        refine tu 24 ?_
        refine tu 25 ?_
        refine tk 26 ?_
        refine wpAnyH_done (by kernel_rfl) ?_ _
        have g1 : Below W1.heap.size W1 wc6 := ((((zvb W1.heap.size W1).drew).trans (show Below W1.heap.size W1.drew wc3 from hbc3)).trans (hbc5.mono (show W1.heap.size ≤ wc3.heap.size from hbc3.size))).trans (hbc6.mono (Nat.le_trans (show W1.heap.size ≤ wc3.heap.size from hbc3.size) hbc5.size))
        have HBZ := zu9 g8 g1
        clear g1
        clear hbc3 hbc5 hbc6 hHeld
        go_wp2
        go_ret
        exact ⟨ze (by rw [HF3.out, HNO.out]), HBZ.out⟩
       ·have hd : decide (0 ≤ z) = false := decide_eq_false g4
        have j3 : Hid (V.okAt n l k = (decide (k = 0) || V.zap n (l.getD (k - 1) V.noI) x)) := zu8 (by rw [j2.out, decide_eq_true (show z < 0 by omega)]; rfl)
        clear g4
        by_cases hk0 : k = 0
        ·have HOK : Hid (∀ i, i < k + 1 -> V.okAt n l i = true) := zu8 (zd0 HZ.out (by rw [j3.out, decide_eq_true hk0]; rfl))
         have k8 : decide ((0 : Int) < (k : Int)) = false := decide_eq_false (by omega)
         have k9 : decide (0 < k) = false := decide_eq_false (by omega)
         clear hk0
         refine wp_region_held_drew (S := (fun W' => zj W' /\ W'.cell? ⟨w.heap.size, 0, none⟩ = some (.int .i64 n) /\ W'.cell? ⟨w.heap.size, 1, none⟩ = some (.slice (some ⟨b, off, none⟩) l.length vc) /\ W'.cell? ⟨wr.heap.size, 0, none⟩ = some (.string ⟨x.lo.toArray⟩) /\ W'.cell? ⟨wr.heap.size, 1, none⟩ = some (.int .i64 x.lk) /\ W'.cell? ⟨wr.heap.size, 2, none⟩ = some (.string ⟨x.hi.toArray⟩) /\ W'.cell? ⟨wr.heap.size, 3, none⟩ = some (.int .i64 x.hk))) (by kernel_rfl) (by (try dsimp only); (try simp only [World.cell?_drew]); exact ⟨g7.out.below (zvb _ _).drew, e0, e1, f0, f1, f2, f3⟩) (fun hHeld => ?_)
         refine tk 0 ?_
         refine tk 1 ?_
         refine tk 2 ?_
         refine tk 4 ?_
         refine rd 3 fun K hK => ?_
         go_simp
         refine (uu x _).mono ?_
         rintro e wc3 ⟨rfl, hbc3⟩
         try dsimp only
         refine hK.out _ _ ?_ (fun hHeld => ?_)
         ·exact zx5
         clear hK K
         try simp only [zu3, zu4, zu5, Act.put, zu6, List.set_cons_succ, List.set_cons_zero]
         refine rd 5 fun K hK => ?_
         go_simp
         refine (vi x _).mono ?_
         rintro e wc5 ⟨rfl, hbc5⟩
         try dsimp only
         refine hK.out _ _ ?_ (fun hHeld => ?_)
         ·exact zx4
         clear hK K
         try simp only [zu3, zu4, zu5, Act.put, zu6, List.set_cons_succ, List.set_cons_zero]
         refine rd 6 fun K hK => ?_
         go_simp
         refine (j1.out _ (by first | assumption | exact And.left (by assumption)) HSC.out (V.zaa g3.out) (V.zam g3.out)).mono ?_
         rintro e wc6 ⟨rfl, hbc6⟩
         try dsimp only
         refine hK.out _ _ ?_ (fun hHeld => ?_)
         ·exact zx3
         clear hK K
         try simp only [zu3, zu4, zu5, Act.put, zu6, List.set_cons_succ, List.set_cons_zero]
         refine tk 7 ?_
         refine tk 8 ?_
         refine tk 9 ?_
         refine tk 10 ?_
         refine tk 11 ?_
         refine tu 12 ?_
         refine tu 13 ?_
         refine tu 14 ?_
         refine tu 15 ?_
         refine tu 16 ?_
         refine tu 17 ?_
         refine tu 18 ?_
         refine tu 19 ?_
         refine tu 20 ?_
         refine tu 21 ?_
         refine tu 22 ?_
         refine tu 23 ?_
         refine tu 24 ?_
         refine tk 25 ?_
         refine tk 26 ?_
         refine wpAnyH_done (by kernel_rfl) ?_ _
         have g1 : Below W1.heap.size W1 wc6 := ((((zvb W1.heap.size W1).drew).trans (show Below W1.heap.size W1.drew wc3 from hbc3)).trans (hbc5.mono (show W1.heap.size ≤ wc3.heap.size from hbc3.size))).trans (hbc6.mono (Nat.le_trans (show W1.heap.size ≤ wc3.heap.size from hbc3.size) hbc5.size))
         have HBZ := zu9 h5 g1
         clear g1
         clear hbc3 hbc5 hbc6 hHeld
         exact zwz
        ·have k8 : decide ((0 : Int) < (k : Int)) = true := decide_eq_true (by omega)
         have q2 : 0 < k := by omega
         have k9 : decide (0 < k) = true := decide_eq_true (by omega)
         have q3 : (1 : Int) ≤ (k : Int) := by omega
         have q4 : (k : Int) - 1 < (l.length : Int) := by omega
         have q5 : (0 : Int) ≤ (k : Int) - 1 := by omega
         have q6 : IntKind.i64.wrap ((k : Int) - 1) = (k : Int) - 1 := by rw [IntKind.wrap_i64]; omega
         have q7 : ((k : Int) - 1).toNat = k - 1 := by omega
         have j4 : k - 1 < l.length := by omega
         obtain ⟨b', off', eb, hb1, hy⟩ := HV.out.at (k - 1) j4
         cases eb
         obtain ⟨y0, y1, y2, y3⟩ := hy.below hb1 g8.out
         have HBY : Hid (V.zt n l[k - 1] = true) := zu8 (h4.out _ (List.getElem_mem j4))
         have q0 := zu8 (zh2 j4)
         generalize l[k - 1] = y at *
         obtain ⟨z2, h8⟩ : ∃ z, z = V.ecmp n (V.km y) (V.eLow x) := ⟨_, rfl⟩
         have j5 : Hid (V.okAt n l k = decide (z2 < 0)) := zu8 (by rw [j3.out, decide_eq_false hk0, q0.out, h8]; exact (V.ztz HBY.out g3.out).symm)
         have j6 := ye n (V.km y) (V.eLow x)
         rw [← h8] at j6
         have q1 := zu8 j6
         clear h8 j6 hy hk0 hb1
         refine wp_region_held_drew (S := (fun W' => zj W' /\ W'.cell? ⟨w.heap.size, 0, none⟩ = some (.int .i64 n) /\ W'.cell? ⟨w.heap.size, 1, none⟩ = some (.slice (some ⟨b, off, none⟩) l.length vc) /\ W'.cell? ⟨wr.heap.size, 0, none⟩ = some (.string ⟨x.lo.toArray⟩) /\ W'.cell? ⟨wr.heap.size, 1, none⟩ = some (.int .i64 x.lk) /\ W'.cell? ⟨wr.heap.size, 2, none⟩ = some (.string ⟨x.hi.toArray⟩) /\ W'.cell? ⟨wr.heap.size, 3, none⟩ = some (.int .i64 x.hk) /\ W'.cell? ⟨b, off + (k - 1) * 4, none⟩ = some (.string ⟨y.lo.toArray⟩) /\ W'.cell? ⟨b, off + (k - 1) * 4 + 1, none⟩ = some (.int .i64 y.lk) /\ W'.cell? ⟨b, off + (k - 1) * 4 + 2, none⟩ = some (.string ⟨y.hi.toArray⟩) /\ W'.cell? ⟨b, off + (k - 1) * 4 + 3, none⟩ = some (.int .i64 y.hk))) (by kernel_rfl) (by (try dsimp only); (try simp only [World.cell?_drew]); exact ⟨g7.out.below (zvb _ _).drew, e0, e1, f0, f1, f2, f3, y0, y1, y2, y3⟩) (fun hHeld => ?_)
         refine tk 0 ?_
         refine tk 1 ?_
         refine tk 2 ?_
         refine tk 4 ?_
         refine rd 3 fun K hK => ?_
         go_simp
         refine (uu x _).mono ?_
         rintro e wc3 ⟨rfl, hbc3⟩
         try dsimp only
         refine hK.out _ _ ?_ (fun hHeld => ?_)
         ·(try dsimp only); go_split_ands; exact ⟨zj.below (by assumption) hbc3, zve hbc3, zve hbc3, zve hbc3, zve hbc3, zve hbc3, zve hbc3, zve hbc3, zve hbc3, zve hbc3, zve hbc3⟩
         clear hK K
         try simp only [zu3, zu4, zu5, Act.put, zu6, List.set_cons_succ, List.set_cons_zero]
         refine rd 5 fun K hK => ?_
         go_simp
         refine (vi x _).mono ?_
         rintro e wc5 ⟨rfl, hbc5⟩
         try dsimp only
         refine hK.out _ _ ?_ (fun hHeld => ?_)
         ·(try dsimp only); go_split_ands; exact ⟨zj.below (by assumption) hbc5, zve hbc5, zve hbc5, zve hbc5, zve hbc5, zve hbc5, zve hbc5, zve hbc5, zve hbc5, zve hbc5, zve hbc5⟩
         clear hK K
         try simp only [zu3, zu4, zu5, Act.put, zu6, List.set_cons_succ, List.set_cons_zero]
         refine rd 6 fun K hK => ?_
         go_simp
         refine (j1.out _ (by first | assumption | exact And.left (by assumption)) HSC.out (V.zaa g3.out) (V.zam g3.out)).mono ?_
         rintro e wc6 ⟨rfl, hbc6⟩
         try dsimp only
         refine hK.out _ _ ?_ (fun hHeld => ?_)
         ·(try dsimp only); go_split_ands; exact ⟨zj.below (by assumption) hbc6, zve hbc6, zve hbc6, zve hbc6, zve hbc6, zve hbc6, zve hbc6, zve hbc6, zve hbc6, zve hbc6, zve hbc6⟩
         clear hK K
         try simp only [zu3, zu4, zu5, Act.put, zu6, List.set_cons_succ, List.set_cons_zero]
         refine tk 7 ?_
         refine tk 8 ?_
         refine tk 9 ?_
         refine tk 10 ?_
         refine tk 11 ?_
         refine tk 12 ?_
         refine tk 13 ?_
         refine tk 14 ?_
         refine tk 15 ?_
         refine tk 16 ?_
         refine tk 17 ?_
         refine tk 18 ?_
         refine tk 19 ?_
         refine tk 21 ?_
         refine rd 20 fun K hK => ?_
         go_simp
         refine (vi y _).mono ?_
         rintro e wc20 ⟨rfl, g0⟩
         try dsimp only
         refine hK.out _ _ ?_ (fun hHeld => ?_)
         ·(try dsimp only); go_split_ands; exact ⟨zj.below (by assumption) g0, zve g0, zve g0, zve g0, zve g0, zve g0, zve g0, zve g0, zve g0, zve g0, zve g0⟩
         clear hK K
         try simp only [zu3, zu4, zu5, Act.put, zu6, List.set_cons_succ, List.set_cons_zero]
         refine rd 22 fun K hK => ?_
         go_simp
         refine (uu x _).mono ?_
         rintro e wc22 ⟨rfl, hbc22⟩
         try dsimp only
         refine hK.out _ _ ?_ (fun hHeld => ?_)
         ·exact zw9
         clear hK K
         try simp only [zu3, zu4, zu5, Act.put, zu6, List.set_cons_succ, List.set_cons_zero]
         refine rd 23 fun K hK => ?_
         go_simp
         refine (q1.out _ (by first | assumption | exact And.left (by assumption)) HSC.out (V.zam HBY.out) (V.zaa g3.out)).mono ?_
         rintro e wc23 ⟨rfl, hbc23⟩
         try dsimp only
         refine hK.out _ _ ?_ (fun hHeld => ?_)
         ·exact zw8
         clear hK K
         try simp only [zu3, zu4, zu5, Act.put, zu6, List.set_cons_succ, List.set_cons_zero]
         refine tk 24 ?_
         refine tk 25 ?_
         refine tk 26 ?_
         refine wpAnyH_done (by kernel_rfl) ?_ _
         have g1 : Below W1.heap.size W1 wc6 := ((((zvb W1.heap.size W1).drew).trans (show Below W1.heap.size W1.drew wc3 from hbc3)).trans (hbc5.mono (show W1.heap.size ≤ wc3.heap.size from hbc3.size))).trans (hbc6.mono (Nat.le_trans (show W1.heap.size ≤ wc3.heap.size from hbc3.size) hbc5.size))
         have h6 : Below wc6.heap.size wc6 wc23 := (g0.trans (hbc22.mono g0.size)).trans (hbc23.mono (Nat.le_trans g0.size hbc22.size))
         have HBZ := zu8 (h5.out.trans ((g1.trans (h6.mono g1.size)).mono h5.out.size))
         have j9 := zu8 (g8.out.trans ((g1.trans (h6.mono g1.size)).mono g8.out.size))
         clear hbc3 hbc5 hbc6 g0 hbc22 hbc23 hHeld g1 h6
         by_cases h8 : 0 ≤ z2
         ·have HNO : Hid (V.ordB n l = false) := zu8 (zgd hlt (by rw [j5.out]; exact decide_eq_false (by omega)))
          go_wp2
          go_ret
          exact ⟨ze (by rw [HF3.out, HNO.out]), j9.out⟩
         ·have HOK : Hid (∀ i, i < k + 1 -> V.okAt n l i = true) := zu8 (zd0 HZ.out (by rw [j5.out]; exact decide_eq_true (by omega)))
          exact zwz
      ·obtain rfl : k = l.length := by omega
       have HR : Hid (V.okR n l = true) := zu8 (by rw [HF3.out]; exact (V.zbm n l).2 HZ.out)
       go_wp2
       go_ret
       exact ⟨ze HR.out.symm, j0.out⟩
open Go.RowKit
theorem zf7 (x : V.Bs) : (ByteArray.mk x.toArray).data.toList = x := by simp
theorem sz_arr (x : V.Bs) : (ByteArray.mk x.toArray).size = x.length := by simp [ByteArray.size]
section
variable {α : Type} {enc : α -> List Value} {k : Nat}
theorem yf (hk : ∀ x, (enc x).length = k) : ∀ {l : List α} (j : Nat) (h : j < l.length) (i : Nat), i < k -> (l.flatMap enc)[j * k + i]? = (enc l[j])[i]?
 | [], j, h, _, _ => by simp at h
 | c :: l, 0, _, i, hi => by
  rw [List.flatMap_cons, List.getElem?_append_left (by rw [hk]; omega)]
  simp
 | c :: l, j + 1, h, i, hi => by
  have hl := hk c
  have e : (j + 1) * k = j * k + k := Nat.succ_mul j k
  rw [List.flatMap_cons, List.getElem?_append_right (by rw [hl]; omega), hl, show (j + 1) * k + i - k = j * k + i by omega]
  rw [yf hk j (by simpa using h) i hi]
  simp
theorem zal (hk : ∀ x, (enc x).length = k) : ∀ (l : List α), (l.flatMap enc).length = l.length * k
 | [] => by simp
 | c :: l => by
  have e : (l.length + 1) * k = l.length * k + k := Nat.succ_mul _ k
  rw [List.flatMap_cons, List.length_append, hk, zal hk l, List.length_cons]
  omega
def GRow (T : TypeId) (k : Nat) (enc : α -> List Value) (w : World) (N : Nat) (v : Value) (l : List α) : Prop := w.ownsRow N T k v l.length (l.flatMap enc)
variable {T : TypeId}
theorem GRow.nil (w : World) (N : Nat) : GRow T k enc w N (.slice none 0 0) [] := ⟨by simp, .inl ⟨rfl, rfl⟩⟩
theorem zym {P : Prop} (h : P := by
 rcases h.2 with ⟨rfl, hn⟩ | ⟨g, cap, cur, rfl, _⟩
 ·exact ⟨none, 0, by rw [hn]⟩
 ·exact ⟨_, cap, rfl⟩) : P := h
theorem GRow.slice {w : World} {N : Nat} {v : Value} {l : List α} (h : GRow T k enc w N v l) : ∃ a cap, v = .slice a l.length cap := by
 exact zym
theorem zdx {w : World} {g i : Nat} {cur : Array Value} {fr : Nat × Nat} (hg : w.heap[g]? = some (.cells cur T fr)) : w.cell? ⟨g, i, none⟩ = cur[i]? := by
 unfold World.cell?
 rw [hg]
 rfl
theorem GRow.at (hk : ∀ x, (enc x).length = k) {w : World} {N : Nat} {v : Value} {l : List α} (h : GRow T k enc w N v l) (j : Nat) (hj : j < l.length) :
  ∃ g cap, v = .slice (some ⟨g, 0, none⟩) l.length cap /\ N ≤ g /\ g < w.heap.size /\ ∀ i u, (enc l[j])[i]? = some u -> w.cell? ⟨g, j * k + i, none⟩ = some u := by
 rcases h.2 with ⟨rfl, hn⟩ | ⟨g, cap, cur, rfl, hb, hg, g1, hm, g2, g0⟩
 ·omega
 ·refine ⟨g, cap, rfl, hb, (Array.getElem?_eq_some_iff.1 hg).1, fun i u hu => ?_⟩
  have hi : i < k := by
   have := (List.getElem?_eq_some_iff.1 hu).1
   rwa [hk] at this
  rw [zdx hg]
  have h1 := yf hk j hj i hi
  rw [hu, ← g0, List.getElem?_take] at h1
  split at h1
  ·simpa using h1
  ·cases h1
theorem GRow.kept {w w' : World} {N : Nat} {v : Value} {l : List α} (h : GRow T k enc w N v l) {row : Option Nat} (hg : w.grownBy w' row) (hr : ∀ b, row = some b -> b < N) : GRow T k enc w' N v l := by
 refine ⟨h.1, ?_⟩
 rcases h.2 with h | ⟨g, cap, cur, rfl, hb, hgg, rest⟩
 ·exact .inl h
 ·exact zxo
theorem GRow.below {w w' : World} {N : Nat} {v : Value} {l : List α} (h : GRow T k enc w N v l) (hb : Below w.heap.size w w') : GRow T k enc w' N v l :=
 h.kept (row := none) ⟨hb.os, hb.tape, hb.output, hb.size, fun k hk _ => hb.block k hk⟩ (fun b e => by cases e)
theorem zyi {P : Prop} (h : P := by
 intro b hb
 rcases h.2 with ⟨rfl, _⟩ | ⟨g, cap, cur, rfl, hbb, _⟩
 ·cases hb
 ·simp [Value.ownBlock] at hb; omega) : P := h
theorem GRow.block {w : World} {N : Nat} {v : Value} {l : List α} (h : GRow T k enc w N v l) : ∀ b, v.ownBlock = some b -> N ≤ b := by
 exact zyi
theorem zy {w w' : World} {N B : Nat} {v : Value} (h : w.grownBy w' v.ownBlock) (hv : ∀ b, v.ownBlock = some b -> N ≤ b) (g0 : B ≤ N) (hB : N ≤ w.heap.size) : Below B w w' :=
 ⟨h.os, h.tape, h.output, h.size, fun k hk => h.block k (by omega) (fun e => by have := hv k e.symm; omega)⟩
theorem zk {w w' : World} {v : Value} (h : w.grownBy w' v.ownBlock) {N b o : Nat} {u : Value} (hv : ∀ b, v.ownBlock = some b -> N ≤ b) (hb : b < N) (hc : w.cell? ⟨b, o, none⟩ = some u) : w'.cell? ⟨b, o, none⟩ = some u :=
 h.cell hc (fun e => by have := hv _ e.symm; simp at this; omega)
theorem GRow.lt {w : World} {N : Nat} {v : Value} {l : List α} (h : GRow T k enc w N v l) : ∀ b, v.ownBlock = some b -> b < w.heap.size := fun b hb => (World.ownsRow.lt h b hb).2
theorem zo4 {w w' : World} {v : Value} (h : w.grownBy w' v.ownBlock) {N i : Nat} {o : Obj} (hv : ∀ b, v.ownBlock = some b -> N ≤ b) (hi : i < N) (ho : w.heap[i]? = some o) : w'.heap[i]? = some o :=
 (h.block i (Array.getElem?_eq_some_iff.1 ho).1 (fun e => by have := hv _ e.symm; omega)).trans ho
def jh (T : TypeId) (k bytes : Nat) : Prop := ∃ i z, Tryz.prog.info? T = some i /\ i.zero = some z /\ i.size = k /\ i.bytes = bytes /\ z.cells.size = k
theorem yr {ops : Array Oper} {rest : List Oper} {o : Oper} {a : Act} {w : World} {Q : Exit -> Act -> World -> Prop} (hk : ∀ x, (enc x).length = k) (g1 : 0 < k) (g2 : ∀ x, ∀ u ∈ enc x, u.oneCell' = true) {bytes : Nat} (hi : jh T k bytes) (g3 : bytes ≤ 1000) (g4 : o.guard = none) (s x : Operand) (S : TypeId)
  (ho : o.op = .call { callee := .builtin .append, args := #[s, x], argTypes := #[S, S] }) (hu : Tryz.prog.underlying S = some (.slice T))
  (N : Nat) (v : Value) (l : List α) (hs : a.eval s = v) (g0 : GRow T k enc w N v l) (b : Nat) (c : α) (hx : a.eval x = .slice (some ⟨b, 0, none⟩) 1 1) (hr : ∀ j u, (enc c)[j]? = some u -> w.cell? ⟨b, j, none⟩ = some u) (hl : l.length ≤ 1000000) (hN : N ≤ w.heap.size)
  (h : ∀ v' w', GRow T k enc w' N v' (l ++ [c]) -> w.grownBy w' v.ownBlock -> wpList Tryz.prog ops Q rest (a.put o.dst v') w') : wpList Tryz.prog ops Q (o :: rest) a w := by
 obtain ⟨ie, z, g5, hz, h1, h2, h3⟩ := hi
 refine wpList_append_own w g4 s x S ho N T ie z k bytes hu g5 hz h1 h2 h3 g1 v l.length (l.flatMap enc) hs g0 ⟨b, 0, none⟩ 1 1 (enc c) hx (by rw [hk]; omega) ?_ (g2 c) (by unfold maxLen; omega) ?_ hN ?_
 ·intro j u hj
  rw [Addr.add_mid, Nat.zero_add]
  exact hr j u hj
 ·have : (l.length + 1) * bytes ≤ 1000001 * 1000 := Nat.mul_le_mul (by omega) g3
  omega
 ·intro v' w' g6 hg _
  refine h v' w' ?_ hg
  unfold GRow
  rw [List.length_append, List.flatMap_append]
  simpa using g6
end
end Go.Proofs.YtbikeahmldobkaaGreatDoor

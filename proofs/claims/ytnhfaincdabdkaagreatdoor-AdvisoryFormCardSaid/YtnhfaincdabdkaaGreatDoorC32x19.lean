/-
  Lemmas for the law.
-/
import Derived.Test.YtnhfaincdabdkaaGreatDoorC32x02
import Derived.Test.YtnhfaincdabdkaaGreatDoorC32x17
import Derived.Test.YtnhfaincdabdkaaGreatDoorC32x18
import Derived.Deep.RegionHeld3
set_option linter.all false
set_option maxRecDepth 100000
set_option maxHeartbeats 3200000
namespace Go.Proofs.YtnhfaincdabdkaaGreatDoor
open Go.RowKit
section
variable {P : Program} {ops : Array Oper} {Q : Exit -> Act -> World -> Prop} {md : Region.Mode} {S : World -> Prop}
theorem tk (i : Nat) {oi : Oper} {v : Value} {fuel : Nat} {l l' : Array Bool} {a a' : Act} {w : World}
  (h : wpAnyH P md ops Q S fuel l' a' w)
  (hi : ops[i]? = some oi := by rfl) (hs : Region.noSelect ops = true := by kernel_rfl) (hf : Region.free md ops l i = true := by kernel_rfl)
  (hr : (Region.ready md ops l).contains i = true := by kernel_rfl)
  (hQ : ∀ c a w, Q (.panic c) (a.put oi.dst v) w -> Q (.panic c) a w := by exact fun _ _ _ h => h)
  (hw : Region.wanted oi (yielded ops a.tmps) = true := by rfl)
  (hy : ∀ w, S w -> (execOp a.eval oi).run P w = .ok (.value v) w := by intro w' hSw; (try dsimp only at hSw); go_simp; try with_reducible rfl)
  (hS : S w := by assumption)
  (hl : l.setIfInBounds i true = l' := by (try simp only [zuo, List.set_cons_succ, List.set_cons_zero]); exact rfl)
  (ha : a.put oi.dst v = a' := by (try simp only [zul, zum, zun, Act.put, zuo, List.set_cons_succ, List.set_cons_zero]); exact rfl) :
  wpAnyH P md ops Q S (fuel + 1) l a w := by
 subst hl ha
 exact wpAnyH_take hi hs hf hr hQ (Or.inl ⟨hw, hy⟩) hS h
theorem tu (i : Nat) {oi : Oper} {fuel : Nat} {l l' : Array Bool} {a a' : Act} {w : World}
  (h : wpAnyH P md ops Q S fuel l' a' w)
  (hi : ops[i]? = some oi := by rfl) (hs : Region.noSelect ops = true := by kernel_rfl) (hf : Region.free md ops l i = true := by kernel_rfl)
  (hr : (Region.ready md ops l).contains i = true := by kernel_rfl)
  (hQ : ∀ c a w, Q (.panic c) (a.put oi.dst undef) w -> Q (.panic c) a w := by exact fun _ _ _ h => h)
  (hw : Region.wanted oi (yielded ops a.tmps) = false := by rfl)
  (hS : S w := by assumption)
  (hl : l.setIfInBounds i true = l' := by (try simp only [zuo, List.set_cons_succ, List.set_cons_zero]); exact rfl)
  (ha : a.put oi.dst undef = a' := by (try simp only [zul, zum, zun, Act.put, zuo, List.set_cons_succ, List.set_cons_zero]); exact rfl) :
  wpAnyH P md ops Q S (fuel + 1) l a w := by
 subst hl ha
 exact wpAnyH_take hi hs hf hr hQ (Or.inr ⟨hw, rfl⟩) hS h
theorem rd (i : Nat) {o : Oper} {fuel : Nat} {l : Array Bool} {a : Act} {w : World}
  (h : ∀ K' : Act -> World -> Prop, Shut (∀ a w, S w -> (S w -> wpAnyH P md ops Q S fuel (l.setIfInBounds i true) a w) -> K' a w) -> if Region.wanted o (yielded ops a.tmps) = true then Oper.wp P o a w K' Q else K' (a.put o.dst undef) w)
  (hi : ops[i]? = some o := by exact rfl) (hr : Region.ready md ops l = [i] := by kernel_rfl) :
  wpAnyH P md ops Q S (fuel + 1) l a w :=
 wpAnyH_ready hr (by simp) (AllReadyH.cons hi h AllReadyH.nil)
theorem nx {i : Nat} {fuel : Nat} {l l' : Array Bool} {a a' : Act} {w : World}
  (h : wpAnyH P md ops Q S fuel l' a' w)
  (hl : l.setIfInBounds i true = l' := by (try simp only [zuo, List.set_cons_succ, List.set_cons_zero]); exact rfl)
  (ha : a = a' := by (try simp only [zul, zum, zun, Act.put, zuo, List.set_cons_succ, List.set_cons_zero]); exact rfl) :
  wpAnyH P md ops Q S fuel (l.setIfInBounds i true) a w := by
 subst hl ha
 exact h
end
open Go.RowKit
theorem zvy {P : Prop} (h : P := by
 go_enter Tryz.func110, Tryz.ntmps110
 go_wp2_with fail
 generalize w.alloc (.cells #[.int .i64 n, .slice va l.length vc] 48) = w0 at *
 refine (zbk n w0).mono ?_
 rintro e w' ⟨rfl, rfl⟩
 rw [HSC.out]
 go_wp2
 go_ret
 exact ⟨zd HR.out.symm, HB0.out⟩) : P := h
theorem zw2 {P : Prop} (h : P := by
 (try dsimp only); go_split_ands; exact ⟨zg.below (by assumption) hbc23, zuw hbc23, zuw hbc23, zuw hbc23, zuw hbc23, zuw hbc23, zuw hbc23, zuw hbc23, zuw hbc23, zuw hbc23, zuw hbc23⟩) : P := h
theorem zw3 {P : Prop} (h : P := by
 (try dsimp only); go_split_ands; exact ⟨zg.below (by assumption) hbc22, zuw hbc22, zuw hbc22, zuw hbc22, zuw hbc22, zuw hbc22, zuw hbc22, zuw hbc22, zuw hbc22, zuw hbc22, zuw hbc22⟩) : P := h
theorem zx6 {P : Prop} (h : P := by
 (try dsimp only); go_split_ands; exact ⟨zg.below (by assumption) hbc6, zuw hbc6, zuw hbc6, zuw hbc6, zuw hbc6, zuw hbc6, zuw hbc6⟩) : P := h
theorem zx7 {P : Prop} (h : P := by
 (try dsimp only); go_split_ands; exact ⟨zg.below (by assumption) hbc5, zuw hbc5, zuw hbc5, zuw hbc5, zuw hbc5, zuw hbc5, zuw hbc5⟩) : P := h
theorem zx8 {P : Prop} (h : P := by
 (try dsimp only); go_split_ands; exact ⟨zg.below (by assumption) hbc3, zuw hbc3, zuw hbc3, zuw hbc3, zuw hbc3, zuw hbc3, zuw hbc3⟩) : P := h
theorem zg5 (n : Int) (v : Value) (l : List V.Itv) (w : World) (hm : zg w) (hv : Itvs w v l) (hs : Lens l) (hl : l.length ≤ maxLen) :
  Calls Tryz.prog 110 #[setV n v] w fun e w' => e = .returned (.bool (V.okR n l)) /\ Below w.heap.size w w' := by
 have HV := zuq hv
 obtain ⟨va, vc, rfl⟩ := hv.slice
 unfold maxLen at hl
 have HS := zuq hs
 have HF : Hid (V.okR n l = (V.scheme n && (decide (l.length ≤ 32) && (l.all (V.zk n) && V.ordB n l)))) := zuq rfl
 have hb0 : Below w.heap.size w (w.alloc (.cells #[.int .i64 n, .slice va l.length vc] 48)) := (zut _ w).alloc (zus _) _
 have HB0 := zuq hb0
 have HM := zuq (hm.below hb0)
 have c0 : (w.alloc (.cells #[.int .i64 n, .slice va l.length vc] 48)).cell? ⟨w.heap.size, 0, none⟩ = some (.int .i64 n) := by simp [zc]
 have c1 : (w.alloc (.cells #[.int .i64 n, .slice va l.length vc] 48)).cell? ⟨w.heap.size, 1, none⟩ = some (.slice va l.length vc) := by simp [zc]
 clear hv hs hb0 hm
 unfold setV
 rcases hsch : V.scheme n with _ | _
 ·have HR : Hid (V.okR n l = false) := zuq (by rw [HF.out, hsch]; rfl)
  have HSC := zuq hsch
  clear hsch
  exact zvy
 ·have HSC := zuq hsch
  clear hsch
  by_cases h32 : 32 < l.length
  ·have HR : Hid (V.okR n l = false) := zuq (by rw [HF.out, decide_eq_false (show ¬ l.length ≤ 32 by omega), Bool.false_and, Bool.and_false])
   exact zvy
  ·have h32' : l.length ≤ 32 := by omega
   have HF2 : Hid (V.okR n l = (l.all (V.zk n) && V.ordB n l)) := zuq (by rw [HF.out, HSC.out, decide_eq_true h32']; rfl)
   have hz0 : w.heap.size < (w.alloc (.cells #[.int .i64 n, .slice va l.length vc] 48)).heap.size := by simp
   go_enter Tryz.func110, Tryz.ntmps110
   go_wp2_with fail
   generalize w.alloc (.cells #[.int .i64 n, .slice va l.length vc] 48) = w0 at *
   refine (zbk n w0).mono ?_
   rintro e w' ⟨rfl, rfl⟩
   rw [HSC.out]
   go_wp2
   go_loopw [3] (fun iv wx => ∃ k : Nat, k ≤ l.length /\ iv = .int .i64 k /\ (l.take k).all (V.zk n) = true /\ Below w0.heap.size w0 wx) (fun iv _ => l.length - (intOf iv).toNat)
   case atStart => exact ⟨0, Nat.zero_le _, rfl, rfl, zut _ _⟩
   case round =>
    obtain ⟨k, hk, rfl, hz, hbx⟩ := hrel
    have HZ := zuq hz
    have HBX := zuq hbx
    have HBF := zur HB0 hbx
    have d0 := (hbx.cell (p := ⟨w.heap.size, 0, none⟩) hz0).trans c0
    have d1 := (hbx.cell (p := ⟨w.heap.size, 1, none⟩) hz0).trans c1
    clear hz hbx
    by_cases hlt : k < l.length
    ·obtain ⟨b, off, rfl, hb0, hx⟩ := HV.out.at k hlt
     obtain ⟨h0, h1, h2, h3⟩ := hx.below hb0 HBF.out
     have hi1 : (0 : Int) ≤ (k : Int) := by omega
     have hi2 : (k : Int) < (l.length : Int) := by omega
     have hlens := HS.out _ (List.getElem_mem hlt)
     have HBD : Hid (V.zk n l[k] = (V.jh n l[k].lo l[k].lk && V.jh n l[k].hi l[k].hk)) := zuq rfl
     have HYES := zuq (fun hb => zov (n := n) HZ.out hlt hb)
     have HNO := zuq (fun hb => bnd_no (n := n) hlt hb)
     clear hx
     generalize l[k] = x at *
     have hbA : Below wr.heap.size wr (wr.alloc (.cells #[.string ⟨x.lo.toArray⟩, .int .i64 x.lk, .string ⟨x.hi.toArray⟩, .int .i64 x.hk] 120)) := (zut _ wr).alloc (zus _) _
     have HM1 := zuq ((HM.out.below HBX.out).below hbA)
     have HBA := zur HBX hbA
     have e0 := za hbA d0
     have hx4 : zbe (wr.alloc (.cells #[.string ⟨x.lo.toArray⟩, .int .i64 x.lk, .string ⟨x.hi.toArray⟩, .int .i64 x.hk] 120)) wr.heap.size 0 x := by
      exact zyv
     have HX4 := zuq hx4
     clear hbA hx4
     go_wp2_with fail
     generalize wr.alloc (.cells #[.string ⟨x.lo.toArray⟩, .int .i64 x.lk, .string ⟨x.hi.toArray⟩, .int .i64 x.hk] 120) = W1 at *
     obtain ⟨f0, f1, f2, f3⟩ := HX4.out
     rw [Nat.zero_add] at f1 f2 f3
     clear h0 h1 h2 h3 d0 d1
     refine (zhs n x.lo x.lk W1 HM1.out hlens.1).mono ?_
     rintro e W2 ⟨rfl, hb2⟩
     have k0 := za hb2 e0
     have k2 := za hb2 f2
     have k3 := za hb2 f3
     have HB2 := zur HBA hb2
     have HM2 := zuq (HM1.out.below hb2)
     clear hb2 e0 f0 f1 f2 f3
     rcases hlo : V.jh n x.lo x.lk with _ | _
     ·exact zww
     ·have HLO := zuq hlo
      clear hlo
      go_wp2_with fail
      refine (zhs n x.hi x.hk W2 HM2.out hlens.2).mono ?_
      exact zvh
    ·obtain rfl : k = l.length := by omega
     have HALL : Hid (∀ x ∈ l, V.zk n x = true) := zuq (by have := HZ.out; rw [List.take_length] at this; exact List.all_eq_true.1 this)
     have HF3 : Hid (V.okR n l = V.ordB n l) := zuq (by rw [HF2.out, List.all_eq_true.2 HALL.out]; rfl)
     have HMW := zuq (HM.out.below HBX.out)
     have hzW : w.heap.size < wr.heap.size := Nat.lt_of_lt_of_le hz0 HBX.out.size
     have HD := zuq (And.intro d0 d1)
     obtain ⟨wo, hwo⟩ : ∃ wo : World, wo = wr := ⟨_, rfl⟩
     subst hwo
     go_wp2
     clear d0 d1
     go_loopw [5] (fun iv wx => ∃ k : Nat, k ≤ l.length /\ iv = .int .i64 k /\ (∀ i, i < k -> V.okAt n l i = true) /\ Below wo.heap.size wo wx) (fun iv _ => l.length - (intOf iv).toNat)
     case atStart => exact ⟨0, Nat.zero_le _, rfl, fun i hi => by omega, zut _ _⟩
     case round =>
      obtain ⟨k, hk, rfl, hz, hbx⟩ := hrel
      have HZ := zuq hz
      have HBX := zuq hbx
      have HBG := zur HBF hbx
      have d0 := (hbx.cell (p := ⟨w.heap.size, 0, none⟩) hzW).trans HD.out.1
      have d1 := (hbx.cell (p := ⟨w.heap.size, 1, none⟩) hzW).trans HD.out.2
      clear hz hbx
      by_cases hlt : k < l.length
      ·obtain ⟨b, off, rfl, hb0, hx⟩ := HV.out.at k hlt
       obtain ⟨h0, h1, h2, h3⟩ := hx.below hb0 HBG.out
       have hi1 : (0 : Int) ≤ (k : Int) := by omega
       have hi2 : (k : Int) < (l.length : Int) := by omega
       have HBK : Hid (V.zk n l[k] = true) := zuq (HALL.out _ (List.getElem_mem hlt))
       have HG := zuq (zih hlt)
       clear hx
       generalize l[k] = x at *
       have hbA : Below wr.heap.size wr (wr.alloc (.cells #[.string ⟨x.lo.toArray⟩, .int .i64 x.lk, .string ⟨x.hi.toArray⟩, .int .i64 x.hk] 120)) := (zut _ wr).alloc (zus _) _
       have HM1 := zuq ((HMW.out.below HBX.out).below hbA)
       have HBA := zur HBG hbA
       have HBAW := zur HBX hbA
       have e0 := za hbA d0
       have e1 := za hbA d1
       have hx4 : zbe (wr.alloc (.cells #[.string ⟨x.lo.toArray⟩, .int .i64 x.lk, .string ⟨x.hi.toArray⟩, .int .i64 x.hk] 120)) wr.heap.size 0 x := by
        exact zyv
       have HX4 := zuq hx4
       clear hbA hx4
       go_wp2_with fail
       generalize wr.alloc (.cells #[.string ⟨x.lo.toArray⟩, .int .i64 x.lk, .string ⟨x.hi.toArray⟩, .int .i64 x.hk] 120) = W1 at *
       obtain ⟨f0, f1, f2, f3⟩ := HX4.out
       rw [Nat.zero_add] at f1 f2 f3
       clear h0 h1 h2 h3 d0 d1
       obtain ⟨z, hz⟩ : ∃ z, z = V.ecmp n (V.eLow x) (V.kk x) := ⟨_, rfl⟩
       have HIN : Hid (V.yd n x = decide (z < 0)) := zuq (by rw [hz]; exact (V.zqj HBK.out).symm)
       have hc1 := yo n (V.eLow x) (V.kk x)
       rw [← hz] at hc1
       have HC1 := zuq hc1
       clear hz hc1
       have HOK0 : Hid (V.okAt n l k = (decide (z < 0) && (decide (k = 0) || V.ut n (l.getD (k - 1) V.noI) x))) := zuq (by unfold V.okAt; rw [HG.out, HIN.out])
       by_cases hz0 : 0 ≤ z
       ·have HNO : Hid (V.ordB n l = false) := zuq (zgp hlt (by rw [HOK0.out, decide_eq_false (show ¬ z < 0 by omega)]; rfl))
        have hd : decide (0 ≤ z) = true := decide_eq_true hz0
        clear hz0
        refine wp_region_held_drew (S := (fun W' => zg W' /\ W'.cell? ⟨w.heap.size, 0, none⟩ = some (.int .i64 n) /\ W'.cell? ⟨w.heap.size, 1, none⟩ = some (.slice (some ⟨b, off, none⟩) l.length vc) /\ W'.cell? ⟨wr.heap.size, 0, none⟩ = some (.string ⟨x.lo.toArray⟩) /\ W'.cell? ⟨wr.heap.size, 1, none⟩ = some (.int .i64 x.lk) /\ W'.cell? ⟨wr.heap.size, 2, none⟩ = some (.string ⟨x.hi.toArray⟩) /\ W'.cell? ⟨wr.heap.size, 3, none⟩ = some (.int .i64 x.hk))) (by kernel_rfl) (by (try dsimp only); (try simp only [World.cell?_drew]); exact ⟨HM1.out.below (zut _ _).drew, e0, e1, f0, f1, f2, f3⟩) (fun hHeld => ?_)
        refine tk 0 ?_
        refine tk 1 ?_
        refine tk 2 ?_
        refine tk 4 ?_
        refine rd 3 fun K hK => ?_
        go_simp
        refine (vr x _).mono ?_
        rintro e wc3 ⟨rfl, hbc3⟩
        try dsimp only
        refine hK.out _ _ ?_ (fun hHeld => ?_)
        ·exact zx8
        clear hK K
        try simp only [zul, zum, zun, Act.put, zuo, List.set_cons_succ, List.set_cons_zero]
        refine rd 5 fun K hK => ?_
        go_simp
        refine (vw x _).mono ?_
        rintro e wc5 ⟨rfl, hbc5⟩
        try dsimp only
        refine hK.out _ _ ?_ (fun hHeld => ?_)
        ·exact zx7
        clear hK K
        try simp only [zul, zum, zun, Act.put, zuo, List.set_cons_succ, List.set_cons_zero]
        refine rd 6 fun K hK => ?_
        go_simp
        refine (HC1.out _ (by first | assumption | exact And.left (by assumption)) HSC.out (V.zao HBK.out) (V.za1 HBK.out)).mono ?_
        rintro e wc6 ⟨rfl, hbc6⟩
        try dsimp only
        refine hK.out _ _ ?_ (fun hHeld => ?_)
        ·exact zx6
        clear hK K
        try simp only [zul, zum, zun, Act.put, zuo, List.set_cons_succ, List.set_cons_zero]
        refine tk 7 ?_
        refine tk 8 ?_
        refine tu 9 ?_
        refine tu 10 ?_
        refine tu 11 ?_
        refine tu 12 ?_
        refine tu 13 ?_
        refine tu 14 ?_
        refine tu 15 ?_
        refine tu 16 ?_
        refine tu 17 ?_
        refine tu 18 ?_
        refine tu 19 ?_
        refine tu 20 ?_
        refine tu 21 ?_
        refine tu 22 ?_
        refine tu 23 ?_
        refine tu 24 ?_
        refine tu 25 ?_
        refine tk 26 ?_
        refine wpAnyH_done (by kernel_rfl) ?_ _
        have hbz1 : Below W1.heap.size W1 wc6 := ((((zut W1.heap.size W1).drew).trans (show Below W1.heap.size W1.drew wc3 from hbc3)).trans (hbc5.mono (show W1.heap.size ≤ wc3.heap.size from hbc3.size))).trans (hbc6.mono (Nat.le_trans (show W1.heap.size ≤ wc3.heap.size from hbc3.size) hbc5.size))
        have HBZ := zur HBA hbz1
        clear hbz1
        clear hbc3 hbc5 hbc6 hHeld
        go_wp2
        go_ret
        exact ⟨zd (by rw [HF3.out, HNO.out]), HBZ.out⟩
       ·have hd : decide (0 ≤ z) = false := decide_eq_false hz0
        have HOK1 : Hid (V.okAt n l k = (decide (k = 0) || V.ut n (l.getD (k - 1) V.noI) x)) := zuq (by rw [HOK0.out, decide_eq_true (show z < 0 by omega)]; rfl)
        clear hz0
        by_cases hk0 : k = 0
        ·have HOK : Hid (∀ i, i < k + 1 -> V.okAt n l i = true) := zuq (zd6 HZ.out (by rw [HOK1.out, decide_eq_true hk0]; rfl))
         have hkd : decide ((0 : Int) < (k : Int)) = false := decide_eq_false (by omega)
         have hkn : decide (0 < k) = false := decide_eq_false (by omega)
         clear hk0
         refine wp_region_held_drew (S := (fun W' => zg W' /\ W'.cell? ⟨w.heap.size, 0, none⟩ = some (.int .i64 n) /\ W'.cell? ⟨w.heap.size, 1, none⟩ = some (.slice (some ⟨b, off, none⟩) l.length vc) /\ W'.cell? ⟨wr.heap.size, 0, none⟩ = some (.string ⟨x.lo.toArray⟩) /\ W'.cell? ⟨wr.heap.size, 1, none⟩ = some (.int .i64 x.lk) /\ W'.cell? ⟨wr.heap.size, 2, none⟩ = some (.string ⟨x.hi.toArray⟩) /\ W'.cell? ⟨wr.heap.size, 3, none⟩ = some (.int .i64 x.hk))) (by kernel_rfl) (by (try dsimp only); (try simp only [World.cell?_drew]); exact ⟨HM1.out.below (zut _ _).drew, e0, e1, f0, f1, f2, f3⟩) (fun hHeld => ?_)
         refine tk 0 ?_
         refine tk 1 ?_
         refine tk 2 ?_
         refine tk 4 ?_
         refine rd 3 fun K hK => ?_
         go_simp
         refine (vr x _).mono ?_
         rintro e wc3 ⟨rfl, hbc3⟩
         try dsimp only
         refine hK.out _ _ ?_ (fun hHeld => ?_)
         ·exact zx8
         clear hK K
         try simp only [zul, zum, zun, Act.put, zuo, List.set_cons_succ, List.set_cons_zero]
         refine rd 5 fun K hK => ?_
         go_simp
         refine (vw x _).mono ?_
         rintro e wc5 ⟨rfl, hbc5⟩
         try dsimp only
         refine hK.out _ _ ?_ (fun hHeld => ?_)
         ·exact zx7
         clear hK K
         try simp only [zul, zum, zun, Act.put, zuo, List.set_cons_succ, List.set_cons_zero]
         refine rd 6 fun K hK => ?_
         go_simp
         refine (HC1.out _ (by first | assumption | exact And.left (by assumption)) HSC.out (V.zao HBK.out) (V.za1 HBK.out)).mono ?_
         rintro e wc6 ⟨rfl, hbc6⟩
         try dsimp only
         refine hK.out _ _ ?_ (fun hHeld => ?_)
         ·exact zx6
         clear hK K
         try simp only [zul, zum, zun, Act.put, zuo, List.set_cons_succ, List.set_cons_zero]
         refine tk 7 ?_
         refine tk 8 ?_
         refine tk 9 ?_
         refine tk 10 ?_
         refine tk 11 ?_
         refine tu 12 ?_
         refine tu 13 ?_
         refine tu 14 ?_
         refine tu 15 ?_
         refine tu 16 ?_
         refine tu 17 ?_
         refine tu 18 ?_
         refine tu 19 ?_
         refine tu 20 ?_
         refine tu 21 ?_
         refine tu 22 ?_
         refine tu 23 ?_
         refine tu 24 ?_
         refine tk 25 ?_
         refine tk 26 ?_
         refine wpAnyH_done (by kernel_rfl) ?_ _
         have hbz1 : Below W1.heap.size W1 wc6 := ((((zut W1.heap.size W1).drew).trans (show Below W1.heap.size W1.drew wc3 from hbc3)).trans (hbc5.mono (show W1.heap.size ≤ wc3.heap.size from hbc3.size))).trans (hbc6.mono (Nat.le_trans (show W1.heap.size ≤ wc3.heap.size from hbc3.size) hbc5.size))
         have HBZ := zur HBAW hbz1
         clear hbz1
         clear hbc3 hbc5 hbc6 hHeld
         exact zwq
        ·have hkd : decide ((0 : Int) < (k : Int)) = true := decide_eq_true (by omega)
         have hkp : 0 < k := by omega
         have hkn : decide (0 < k) = true := decide_eq_true (by omega)
         have hi3 : (1 : Int) ≤ (k : Int) := by omega
         have hi4 : (k : Int) - 1 < (l.length : Int) := by omega
         have hi5 : (0 : Int) ≤ (k : Int) - 1 := by omega
         have hi6 : IntKind.i64.wrap ((k : Int) - 1) = (k : Int) - 1 := by rw [IntKind.wrap_i64]; omega
         have hi7 : ((k : Int) - 1).toNat = k - 1 := by omega
         have hk1 : k - 1 < l.length := by omega
         obtain ⟨b', off', eb, hb1, hy⟩ := HV.out.at (k - 1) hk1
         cases eb
         obtain ⟨y0, y1, y2, y3⟩ := hy.below hb1 HBA.out
         have HBY : Hid (V.zk n l[k - 1] = true) := zuq (HALL.out _ (List.getElem_mem hk1))
         have HGY := zuq (zih hk1)
         generalize l[k - 1] = y at *
         obtain ⟨z2, hz2⟩ : ∃ z, z = V.ecmp n (V.kk y) (V.eLow x) := ⟨_, rfl⟩
         have HOK2 : Hid (V.okAt n l k = decide (z2 < 0)) := zuq (by rw [HOK1.out, decide_eq_false hk0, HGY.out, hz2]; exact (V.zto HBY.out HBK.out).symm)
         have hc2 := yo n (V.kk y) (V.eLow x)
         rw [← hz2] at hc2
         have HC2 := zuq hc2
         clear hz2 hc2 hy hk0 hb1
         refine wp_region_held_drew (S := (fun W' => zg W' /\ W'.cell? ⟨w.heap.size, 0, none⟩ = some (.int .i64 n) /\ W'.cell? ⟨w.heap.size, 1, none⟩ = some (.slice (some ⟨b, off, none⟩) l.length vc) /\ W'.cell? ⟨wr.heap.size, 0, none⟩ = some (.string ⟨x.lo.toArray⟩) /\ W'.cell? ⟨wr.heap.size, 1, none⟩ = some (.int .i64 x.lk) /\ W'.cell? ⟨wr.heap.size, 2, none⟩ = some (.string ⟨x.hi.toArray⟩) /\ W'.cell? ⟨wr.heap.size, 3, none⟩ = some (.int .i64 x.hk) /\ W'.cell? ⟨b, off + (k - 1) * 4, none⟩ = some (.string ⟨y.lo.toArray⟩) /\ W'.cell? ⟨b, off + (k - 1) * 4 + 1, none⟩ = some (.int .i64 y.lk) /\ W'.cell? ⟨b, off + (k - 1) * 4 + 2, none⟩ = some (.string ⟨y.hi.toArray⟩) /\ W'.cell? ⟨b, off + (k - 1) * 4 + 3, none⟩ = some (.int .i64 y.hk))) (by kernel_rfl) (by (try dsimp only); (try simp only [World.cell?_drew]); exact ⟨HM1.out.below (zut _ _).drew, e0, e1, f0, f1, f2, f3, y0, y1, y2, y3⟩) (fun hHeld => ?_)
         refine tk 0 ?_
         refine tk 1 ?_
         refine tk 2 ?_
         refine tk 4 ?_
         refine rd 3 fun K hK => ?_
         go_simp
         refine (vr x _).mono ?_
         rintro e wc3 ⟨rfl, hbc3⟩
         try dsimp only
         refine hK.out _ _ ?_ (fun hHeld => ?_)
         ·(try dsimp only); go_split_ands; exact ⟨zg.below (by assumption) hbc3, zuw hbc3, zuw hbc3, zuw hbc3, zuw hbc3, zuw hbc3, zuw hbc3, zuw hbc3, zuw hbc3, zuw hbc3, zuw hbc3⟩
         clear hK K
         try simp only [zul, zum, zun, Act.put, zuo, List.set_cons_succ, List.set_cons_zero]
         refine rd 5 fun K hK => ?_
         go_simp
         refine (vw x _).mono ?_
         rintro e wc5 ⟨rfl, hbc5⟩
         try dsimp only
         refine hK.out _ _ ?_ (fun hHeld => ?_)
         ·(try dsimp only); go_split_ands; exact ⟨zg.below (by assumption) hbc5, zuw hbc5, zuw hbc5, zuw hbc5, zuw hbc5, zuw hbc5, zuw hbc5, zuw hbc5, zuw hbc5, zuw hbc5, zuw hbc5⟩
         clear hK K
         try simp only [zul, zum, zun, Act.put, zuo, List.set_cons_succ, List.set_cons_zero]
         refine rd 6 fun K hK => ?_
         go_simp
         refine (HC1.out _ (by first | assumption | exact And.left (by assumption)) HSC.out (V.zao HBK.out) (V.za1 HBK.out)).mono ?_
         rintro e wc6 ⟨rfl, hbc6⟩
         try dsimp only
         refine hK.out _ _ ?_ (fun hHeld => ?_)
         ·(try dsimp only); go_split_ands; exact ⟨zg.below (by assumption) hbc6, zuw hbc6, zuw hbc6, zuw hbc6, zuw hbc6, zuw hbc6, zuw hbc6, zuw hbc6, zuw hbc6, zuw hbc6, zuw hbc6⟩
         clear hK K
         try simp only [zul, zum, zun, Act.put, zuo, List.set_cons_succ, List.set_cons_zero]
         refine tk 7 ?_
         refine tk 8 ?_
         refine tk 9 ?_
         refine tk 10 ?_
         refine tk 11 ?_
         refine tk 12 ?_
         refine tk 13 ?_
         refine tk 14 ?_
         refine tk 15 ?_
         refine tk 16 ?_
         refine tk 17 ?_
         refine tk 18 ?_
         refine tk 19 ?_
         refine tk 21 ?_
         refine rd 20 fun K hK => ?_
         go_simp
         refine (vw y _).mono ?_
         rintro e wc20 ⟨rfl, hbc20⟩
         try dsimp only
         refine hK.out _ _ ?_ (fun hHeld => ?_)
         ·(try dsimp only); go_split_ands; exact ⟨zg.below (by assumption) hbc20, zuw hbc20, zuw hbc20, zuw hbc20, zuw hbc20, zuw hbc20, zuw hbc20, zuw hbc20, zuw hbc20, zuw hbc20, zuw hbc20⟩
         clear hK K
         try simp only [zul, zum, zun, Act.put, zuo, List.set_cons_succ, List.set_cons_zero]
         refine rd 22 fun K hK => ?_
         go_simp
         refine (vr x _).mono ?_
         rintro e wc22 ⟨rfl, hbc22⟩
         try dsimp only
         refine hK.out _ _ ?_ (fun hHeld => ?_)
         ·exact zw3
         clear hK K
         try simp only [zul, zum, zun, Act.put, zuo, List.set_cons_succ, List.set_cons_zero]
         refine rd 23 fun K hK => ?_
         go_simp
         refine (HC2.out _ (by first | assumption | exact And.left (by assumption)) HSC.out (V.za1 HBY.out) (V.zao HBK.out)).mono ?_
         rintro e wc23 ⟨rfl, hbc23⟩
         try dsimp only
         refine hK.out _ _ ?_ (fun hHeld => ?_)
         ·exact zw2
         clear hK K
         try simp only [zul, zum, zun, Act.put, zuo, List.set_cons_succ, List.set_cons_zero]
         refine tk 24 ?_
         refine tk 25 ?_
         refine tk 26 ?_
         refine wpAnyH_done (by kernel_rfl) ?_ _
         have hbz1 : Below W1.heap.size W1 wc6 := ((((zut W1.heap.size W1).drew).trans (show Below W1.heap.size W1.drew wc3 from hbc3)).trans (hbc5.mono (show W1.heap.size ≤ wc3.heap.size from hbc3.size))).trans (hbc6.mono (Nat.le_trans (show W1.heap.size ≤ wc3.heap.size from hbc3.size) hbc5.size))
         have hbz2 : Below wc6.heap.size wc6 wc23 := (hbc20.trans (hbc22.mono hbc20.size)).trans (hbc23.mono (Nat.le_trans hbc20.size hbc22.size))
         have HBZ := zuq (HBAW.out.trans ((hbz1.trans (hbz2.mono hbz1.size)).mono HBAW.out.size))
         have HBZ0 := zuq (HBA.out.trans ((hbz1.trans (hbz2.mono hbz1.size)).mono HBA.out.size))
         clear hbc3 hbc5 hbc6 hbc20 hbc22 hbc23 hHeld hbz1 hbz2
         by_cases hz2 : 0 ≤ z2
         ·have HNO : Hid (V.ordB n l = false) := zuq (zgp hlt (by rw [HOK2.out]; exact decide_eq_false (by omega)))
          go_wp2
          go_ret
          exact ⟨zd (by rw [HF3.out, HNO.out]), HBZ0.out⟩
         ·have HOK : Hid (∀ i, i < k + 1 -> V.okAt n l i = true) := zuq (zd6 HZ.out (by rw [HOK2.out]; exact decide_eq_true (by omega)))
          exact zwq
      ·obtain rfl : k = l.length := by omega
       have HR : Hid (V.okR n l = true) := zuq (by rw [HF3.out]; exact (V.zbq n l).2 HZ.out)
       go_wp2
       go_ret
       exact ⟨zd HR.out.symm, HBG.out⟩
theorem zts {l : V.Bs} {k : Nat} (h : k < l.length) : (l.take (k + 1)).flatMap V.encB = (l.take k).flatMap V.encB ++ V.encB l[k] := by
 rw [List.take_succ_eq_append_getElem h, List.flatMap_append]
 simp
theorem word_to (l : V.Bs) (k : Nat) : ((l.take k).flatMap V.encB).length ≤ 3 * l.length := by
 rw [V.zjl]
 exact zsd l k
theorem dig_at {n : Nat} (h : n < 16) : (ByteArray.mk #[48, 49, 50, 51, 52, 53, 54, 55, 56, 57, 65, 66, 67, 68, 69, 70]).data.toList[n]? = some (V.digU.getD n 0) := by
 have : ∀ m : Fin 16, (ByteArray.mk #[48, 49, 50, 51, 52, 53, 54, 55, 56, 57, 65, 66, 67, 68, 69, 70]).data.toList[m.val]? = some (V.digU.getD m.val 0) := by decide
 exact this ⟨n, h⟩
theorem zx5 {P : Prop} (h : P := by
 go_wp2
 go_roundw
 case rel => exact ⟨k + 1, by omega, by go_num, by rw [HN.out]; exact HB9.out⟩
 case measure => simp [intOf]; omega) : P := h
theorem zoy (s : ByteArray) (w : World) (hs : s.size ≤ 100000) : Calls Tryz.prog 107 #[.string s] w fun e w' => e = .returned (.string ⟨(V.word s.data.toList).toArray⟩) /\ Below w.heap.size w w' := by
 by_cases h0 : s.data.toList = []
 ·have hs0 : s = ⟨#[]⟩ := ks (by rw [h0])
  subst hs0
  go_enter Tryz.func107, Tryz.ntmps107
  go_wp2
  go_ret
  exact ⟨rfl, zut _ _⟩
 ·have hse : s.toList.isEmpty = false := by
   rw [Lib.toList_data]
   cases hq : s.data.toList with
   | nil => exact absurd hq h0
   | cons c r => rfl
  have HW : Hid (V.word s.data.toList = s.data.toList.flatMap V.encB) := zuq (by
    unfold V.word
    cases hq : s.data.toList with
    | nil => exact absurd hq h0
    | cons c r => rw [List.isEmpty_cons, if_neg (by decide)])
  have HP : Hid (0 < s.data.toList.length) := zuq (List.length_pos_iff.2 h0)
  have hsz := V.wn s.data.toList
  rw [zf] at hsz
  clear h0
  go_enter Tryz.func107, Tryz.ntmps107
  go_wp2_with fail
  refine (zhf s w hs).mono ?_
  rintro e w' ⟨rfl, rfl⟩
  clear hse
  go_wp2_with (first | (refine zs5 rfl _ rfl w'.heap.size (V.zae s.data.toList) w' (zut _ _) (zus _) rfl (by omega) ?_; intro w1 hb1) | fail)
  have HB1 := zuq hb1
  clear hb1
  go_wp2
  go_loopw [3, 4] (fun ov iv wx => ∃ k : Nat, k ≤ s.size /\ iv = .int .i64 k /\ Buf w'.heap.size ov ((s.data.toList.take k).flatMap V.encB) w' wx) (fun _ iv _ => s.size - (intOf iv).toNat)
  case atStart => exact ⟨0, Nat.zero_le _, rfl, HB1.out⟩
  case round =>
   obtain ⟨k, hk, rfl, hb⟩ := hrel
   have HB := zuq hb
   obtain ⟨oa, oc, rfl⟩ := hb.slice
   have hl := zf s
   have hle := word_to s.data.toList k
   rw [hl] at hle
   clear hb HB1
   by_cases hlt : k < s.size
   ·have HT := zuq (zts (l := s.data.toList) (k := k) (by omega))
    have he : s.data.toList[k]'(by omega) = s[k] := by simp; rfl
    rw [he] at HT
    have hs1 : (0 : Int) ≤ (k : Int) := by omega
    have hs2 : (k : Int) < (s.size : Int) := by omega
    obtain ⟨L, hL⟩ : ∃ L, L = (s.data.toList.take k).flatMap V.encB := ⟨_, rfl⟩
    rw [← hL] at HT hle HB ⊢
    obtain ⟨c, hc⟩ : ∃ c, c = s[k] := ⟨_, rfl⟩
    have HCI : Hid (s.data.toList[((k : Int)).toNat]? = some c) := zuq (by rw [Int.toNat_natCast, List.getElem?_eq_getElem (by omega), he, ← hc])
    have hc256 := c.toNat_lt
    have HD1 : Hid ((ByteArray.mk #[48, 49, 50, 51, 52, 53, 54, 55, 56, 57, 65, 66, 67, 68, 69, 70]).data.toList[(((c.toNat / 16 : Nat) : Int)).toNat]? = some (V.digU.getD (c.toNat / 16) 0)) := zuq (by rw [Int.toNat_natCast]; exact dig_at (by omega))
    have HD2 : Hid ((ByteArray.mk #[48, 49, 50, 51, 52, 53, 54, 55, 56, 57, 65, 66, 67, 68, 69, 70]).data.toList[(((c.toNat % 16 : Nat) : Int)).toNat]? = some (V.digU.getD (c.toNat % 16) 0)) := zuq (by rw [Int.toNat_natCast]; exact dig_at (by omega))
    rw [← hc] at HT
    have HC := zuq hc
    clear he hl hL hc
    go_wp2_with fail
    rw [← HC.out]
    refine (zaj c wr).mono ?_
    rintro e w2 ⟨rfl, rfl⟩
    rcases hp : V.jr c with _ | _
    ·have HN : Hid ((s.data.toList.take (k + 1)).flatMap V.encB = L ++ [37, V.digU.getD (c.toNat / 16) 0, V.digU.getD (c.toNat % 16) 0]) := zuq (by rw [HT.out]; unfold V.encB; rw [hp]; rfl)
     clear hp HT
     go_wp2_with fail
     refine wp_region_any (by kernel_rfl) ?_
     change wpAny _ _ _ _ _ _ _ (World.drew _)
     have HB3 := zuq (HB.out.below (zut _ w2).drew)
     clear HB
     generalize w2.drew = w3 at *
     refine wpAny_take (i := 0) (v := .slice oa L.length oc) rfl (by kernel_rfl) (by kernel_rfl) (by kernel_rfl) (fun _ _ _ h => h) (Or.inl ⟨by rfl, fun W => by go_simp⟩) ?_
     refine wpAny_take (i := 1) (v := .string s) rfl (by kernel_rfl) (by kernel_rfl) (by kernel_rfl) (fun _ _ _ h => h) (Or.inl ⟨by rfl, fun W => by go_simp⟩) ?_
     refine wpAny_take (i := 2) (v := .int .i64 k) rfl (by kernel_rfl) (by kernel_rfl) (by kernel_rfl) (fun _ _ _ h => h) (Or.inl ⟨by rfl, fun W => by go_simp⟩) ?_
     refine wpAny_take (i := 6) (v := .string s) rfl (by kernel_rfl) (by kernel_rfl) (by kernel_rfl) (fun _ _ _ h => h) (Or.inl ⟨by rfl, fun W => by go_simp⟩) ?_
     refine wpAny_take (i := 7) (v := .int .i64 k) rfl (by kernel_rfl) (by kernel_rfl) (by kernel_rfl) (fun _ _ _ h => h) (Or.inl ⟨by rfl, fun W => by go_simp⟩) ?_
     simp only [zul, zum, zun, Act.put, zuo, List.set_cons_succ, List.set_cons_zero]
     refine wpAny_take (i := 3) (v := .int .u8 c.toNat) rfl (by kernel_rfl) (by kernel_rfl) (by kernel_rfl) (fun _ _ _ h => h) (Or.inl ⟨by rfl, fun W => zca rfl rfl rfl hs1 HCI.out⟩) ?_
     refine wpAny_take (i := 8) (v := .int .u8 c.toNat) rfl (by kernel_rfl) (by kernel_rfl) (by kernel_rfl) (fun _ _ _ h => h) (Or.inl ⟨by rfl, fun W => zca rfl rfl rfl hs1 HCI.out⟩) ?_
     simp only [zul, zum, zun, Act.put, zuo, List.set_cons_succ, List.set_cons_zero]
     refine wpAny_take (i := 4) (v := .int .u8 ((c.toNat / 16 : Nat) : Int)) rfl (by kernel_rfl) (by kernel_rfl) (by kernel_rfl) (fun _ _ _ h => h) (Or.inl ⟨by rfl, fun W => ex_shr4 rfl rfl rfl⟩) ?_
     refine wpAny_take (i := 9) (v := .int .u8 ((c.toNat % 16 : Nat) : Int)) rfl (by kernel_rfl) (by kernel_rfl) (by kernel_rfl) (fun _ _ _ h => h) (Or.inl ⟨by rfl, fun W => ex_and15 rfl rfl rfl⟩) ?_
     simp only [zul, zum, zun, Act.put, zuo, List.set_cons_succ, List.set_cons_zero]
     refine wpAny_take (i := 5) (v := .int .u8 (V.digU.getD (c.toNat / 16) 0).toNat) rfl (by kernel_rfl) (by kernel_rfl) (by kernel_rfl) (fun _ _ _ h => h) (Or.inl ⟨by rfl, fun W => zca rfl rfl rfl (by omega) HD1.out⟩) ?_
     refine wpAny_take (i := 10) (v := .int .u8 (V.digU.getD (c.toNat % 16) 0).toNat) rfl (by kernel_rfl) (by kernel_rfl) (by kernel_rfl) (fun _ _ _ h => h) (Or.inl ⟨by rfl, fun W => zca rfl rfl rfl (by omega) HD2.out⟩) ?_
     simp only [zul, zum, zun, Act.put, zuo, List.set_cons_succ, List.set_cons_zero]
     refine wpAny_all (rs := [11]) (by kernel_rfl) (by simp) ?_
     intro i0 hi0
     obtain rfl : i0 = 11 := by simpa using hi0
     clear hi0
     refine wpOp_step (by rfl) (fun K hK => znd rfl _ _ _ rfl 37 (V.digU.getD (c.toNat / 16) 0) (V.digU.getD (c.toNat % 16) 0) rfl rfl rfl (hK _ _ ?_))
     clear hK K
     have HBN := zuq (za0 [37, V.digU.getD (c.toNat / 16) 0, V.digU.getD (c.toNat % 16) 0] w3)
     have HB4 := zuq (HB3.out.below ((zut _ w3).alloc (zus _) (.cells (bvals [37, V.digU.getD (c.toNat / 16) 0, V.digU.getD (c.toNat % 16) 0]).toArray 5)))
     clear HB3
     generalize w3.alloc (.cells (bvals [37, V.digU.getD (c.toNat / 16) 0, V.digU.getD (c.toNat % 16) 0]).toArray 5) = w4 at *
     simp only [zul, zum, zun, Act.put, zuo, List.set_cons_succ, List.set_cons_zero]
     refine wpAny_all (rs := [12]) (by kernel_rfl) (by simp) ?_
     intro i0 hi0
     obtain rfl : i0 = 12 := by simpa using hi0
     clear hi0
     refine wpOp_step (by rfl) (fun K hK => ?_)
     refine zrf rfl _ _ rfl w'.heap.size (.slice oa L.length oc) L w' rfl HB4.out w3.heap.size 3 [37, V.digU.getD (c.toNat / 16) 0, V.digU.getD (c.toNat % 16) 0] rfl HBN.out (by simp; omega) ?_
     intro v9 w9 hb9
     refine hK _ _ ?_
     clear hK K
     have HB9 := zuq hb9
     clear hb9 HBN HB4
     simp only [zul, zum, zun, Act.put, zuo, List.set_cons_succ, List.set_cons_zero]
     refine wpAny_take (i := 13) (v := v9) rfl (by kernel_rfl) (by kernel_rfl) (by kernel_rfl) (fun _ _ _ h => h) (Or.inl ⟨by rfl, fun W => by go_simp⟩) ?_
     simp only [zul, zum, zun, Act.put, zuo, List.set_cons_succ, List.set_cons_zero]
     refine wpAny_done (by kernel_rfl) ?_ _
     exact zx5
    ·have HN : Hid ((s.data.toList.take (k + 1)).flatMap V.encB = L ++ [c]) := zuq (by rw [HT.out]; unfold V.encB; rw [hp]; rfl)
     clear hp HT
     have HB2 : Hid (Buf w'.heap.size (.slice oa L.length oc) L w' (w2.alloc (.cells #[.int .u8 s[k].toNat] 5))) := zuq (HB.out.below ((zut _ w2).alloc (zus _) _))
     go_wp2_with (first | (refine zdi rfl _ _ rfl w'.heap.size (.slice oa L.length oc) L w' rfl HB2.out w2.heap.size 1 [c] rfl ?_ (by simp; omega) ?_; rotate_left; intro v9 w9 hb9) | fail)
     ·have HB9 := zuq hb9
      clear hb9
      exact zx5
     ·rw [← HC.out]
      exact za0 [c] w2
   ·obtain rfl : k = s.size := by omega
    have ht : s.data.toList.take s.size = s.data.toList := List.take_of_length_le (by omega)
    rw [ht, ← HW.out] at HB
    have hcv := zja HB.out (by rw [V.zbt]; have := HP.out; unfold V.zae; omega)
    have hll : ((s.data.toList.take s.size).flatMap V.encB).length = (V.word s.data.toList).length := by rw [ht, HW.out]
    rw [hll] at *
    have HBL := zuq HB.out.2.1
    go_wp2
    go_ret
    exact ⟨rfl, HBL.out⟩
open Go.RowKit
end Go.Proofs.YtnhfaincdabdkaaGreatDoor

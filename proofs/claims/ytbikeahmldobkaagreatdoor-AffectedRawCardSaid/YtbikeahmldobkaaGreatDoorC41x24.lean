/-
  Lemmas for the law.
-/
import Derived.Test.YtbikeahmldobkaaGreatDoorC41x23
import Derived.Test.YtbikeahmldobkaaGreatDoorC41x04
import Derived.Deep.RegionHeld3
set_option linter.all false
set_option maxRecDepth 100000
set_option maxHeartbeats 1600000
namespace Go.Proofs.YtbikeahmldobkaaGreatDoor
open Go.RowKit
theorem ze {W W' : World} {b o : Nat} {v : Value} (hb : Below W.heap.size W W') (h : W.cell? ⟨b, o, none⟩ = some v) : W'.cell? ⟨b, o, none⟩ = some v :=
 (hb.cell (p := ⟨b, o, none⟩) (World.block_lt_of_cell? _ _ h)).trans h
theorem zpg {W W' : World} {b o : Nat} {v : Value} (hb : Below W.heap.size W W') (h : W.cell? ⟨b, o, none⟩ = some v := by assumption) : W'.cell? ⟨b, o, none⟩ = some v := ze hb h
theorem za4 {n : Int} {l : List V.Itv} {k : Nat} (h : ∀ i, i < k -> V.okAt n l i = true) (hk : V.okAt n l k = true) : ∀ i, i < k + 1 -> V.okAt n l i = true := fun i hi => by
 by_cases e : i = k
 ·subst e; exact hk
 ·exact h i (by omega)
theorem zc7 {n : Int} {l : List V.Itv} {k : Nat} (hk : k < l.length) (h : V.okAt n l k = false) : V.ordB n l = false := by
 rcases hb : V.ordB n l with _ | _
 ·rfl
 ·rw [(V.zb4 n l).1 hb k hk] at h; cases h
theorem zej {l : List V.Itv} {k : Nat} (h : k < l.length) : l.getD k V.noI = l[k] := by rw [List.getD_eq_getElem?_getD, List.getElem?_eq_getElem h]; rfl
theorem zqx {P : Prop} (h : P := by
 go_wp2
 go_roundw
 case rel => exact ⟨k + 1, by omega, by go_num, HOK.out, HBZ.out⟩
 case measure => simp [intOf]; omega) : P := h
theorem zrp {P : Prop} (h : P := by
 go_quiet (fail)
 have HBZ := zpa (below_drewN HBV.out nq)
 generalize W2.drewN nq = W3 at *
 go_wp2
 go_ret
 exact ⟨zf HNO.out.symm, HBZ.out⟩) : P := h
theorem zgv (n : Int) (v : Value) (l : List V.Itv) (w : World) (hm : zm w) (hn : V.scheme n = true) (hv : Itvs w v l) (hb : ∀ x ∈ l, V.zu n x = true) (hl : l.length ≤ 1000) :
  Calls Tryz.prog 151 #[.int .i64 n, v] w fun e w' => e = .returned (.bool (V.ordB n l)) /\ Below w.heap.size w w' := by
 have HV := zpa hv
 obtain ⟨va, vc, rfl⟩ := hv.slice
 have HN := zpa hn
 have HM := zpa hm
 have HB := zpa hb
 clear hn hm hb hv
 go_enter Tryz.func151, Tryz.ntmps151
 go_wp2
 go_loopw [10] (fun iv wx => ∃ k : Nat, k ≤ l.length /\ iv = .int .i64 k /\ (∀ i, i < k -> V.okAt n l i = true) /\ Below w.heap.size w wx) (fun iv _ => l.length - (intOf iv).toNat)
 case atStart => exact ⟨0, Nat.zero_le _, rfl, fun i hi => by omega, zpd _ _⟩
 case round =>
  obtain ⟨k, hk, rfl, hz, hbx⟩ := hrel
  have HZ := zpa hz
  have HBX := zpa hbx
  clear hz hbx
  by_cases hlt : k < l.length
  ·obtain ⟨b, off, rfl, hb0, hx⟩ := HV.out.at k hlt
   have hx' := hx.below hb0 HBX.out
   obtain ⟨h0, h1, h2, h3⟩ := hx'
   have hi1 : (0 : Int) ≤ (k : Int) := by omega
   have hi2 : (k : Int) < (l.length : Int) := by omega
   have hbx : V.zu n l[k] = true := HB.out _ (List.getElem_mem hlt)
   have HBK := zpa hbx
   have HG := zpa (zej hlt)
   clear hx hbx
   have hz1 : wr.heap.size < (wr.alloc (.cells #[.string ⟨l[k].lo.toArray⟩, .int .i64 l[k].lk, .string ⟨l[k].hi.toArray⟩, .int .i64 l[k].hk] 83)).heap.size := by simp
   have hbW : Below w.heap.size w (wr.alloc (.cells #[.string ⟨l[k].lo.toArray⟩, .int .i64 l[k].lk, .string ⟨l[k].hi.toArray⟩, .int .i64 l[k].hk] 83)) := HBX.out.alloc HBX.out.size _
   have hx4 : ws (wr.alloc (.cells #[.string ⟨l[k].lo.toArray⟩, .int .i64 l[k].lk, .string ⟨l[k].hi.toArray⟩, .int .i64 l[k].hk] 83)) wr.heap.size 0 l[k] := by
    refine ⟨?_, ?_, ?_, ?_⟩ <;> simp [zj]
   have HX4 := zpa hx4
   have HBW := zpa hbW
   clear hx4 hbW
   go_wp2_with fail
   generalize wr.alloc (.cells #[.string ⟨l[k].lo.toArray⟩, .int .i64 l[k].lk, .string ⟨l[k].hi.toArray⟩, .int .i64 l[k].hk] 83) = W0 at *
   obtain ⟨d0, d1, d2, d3⟩ := HX4.out
   rw [Nat.zero_add] at d1 d2 d3
   have HXV := zpa (fun (h1 : l[k].lk ≠ 0) => V.yu HBK.out h1)
   have HXW := zpa (fun (h1 : l[k].hk ≠ 0) => V.jd HBK.out h1)
   have HM0 : Hid (zm W0) := zpa (HM.out.below HBW.out)
   have HIF : Hid (V.vu n l[k] = (decide (l[k].lk = 0) || (decide (l[k].hk = 0) || decide (V.cutC n l[k].low l[k].high < 0)))) := zpa rfl
   generalize l[k] = x at *
   clear h0 h1 h2 h3
   rcases hin : V.vu n x with _ | _
   ·have HIN := zpa hin
    rw [HIF.out] at hin
    simp only [Bool.or_eq_false_iff, decide_eq_false_iff_not] at hin
    obtain ⟨i1, i2, i3⟩ := hin
    have hlow := HXV.out i1
    have hhigh := HXW.out i2
    have g1 : (x.lk != 0) = true := by simpa using i1
    have g2 : (x.hk != 0) = true := by simpa using i2
    have i4 : 0 ≤ V.cutC n x.low x.high := by omega
    have HNO : Hid (V.ordB n l = false) := zpa (zc7 hlt (by unfold V.okAt; rw [HG.out, HIN.out]; rfl))
    clear i1 i2 i3
    go_region_held3 (fun W' => zm W' /\ W'.cell? ⟨wr.heap.size, 0, none⟩ = some (.string ⟨x.lo.toArray⟩) /\ W'.cell? ⟨wr.heap.size, 1, none⟩ = some (.int .i64 x.lk) /\ W'.cell? ⟨wr.heap.size, 2, none⟩ = some (.string ⟨x.hi.toArray⟩) /\ W'.cell? ⟨wr.heap.size, 3, none⟩ = some (.int .i64 x.hk))
     (first
       | (go_split_ands; exact ⟨zm.below (by assumption) hbq, zpg hbq, zpg hbq, zpg hbq, zpg hbq⟩)
       | (exact ⟨HM0.out, d0, d1, d2, d3⟩)
       | go_keep)
     (first
       | (go_at_call 113; refine (zbe x _).mono ?_; rintro e wq ⟨rfl, hbq⟩)
       | (go_at_call 114; refine (yx x _).mono ?_; rintro e wq ⟨rfl, hbq⟩)
       | (go_at_call 112; refine (ju n x.low x.high _ (by first | assumption | exact And.left (by assumption)) HN.out hlow hhigh).mono ?_; rintro e wq ⟨rfl, hbq⟩))
    rename_i wa hba wb hbb hS
    have HBZ := zpa (HBW.out.trans ((((zpd W0.heap.size W0).drew).trans (Below.trans (show Below W0.heap.size W0.drew wa from hba) ((hbb.trans (hbq.mono hbb.size)).mono hba.size))).mono HBW.out.size))
    clear hba hbb hbq hS
    generalize V.cutC n x.low x.high = z at *
    go_wp2
    go_ret
    exact ⟨zf HNO.out.symm, HBZ.out⟩
   ·have HIN := zpa hin
    have hcase : (x.lk != 0) = false ∨ ((x.lk != 0) = true /\ (x.hk != 0) = false) ∨ ((x.lk != 0) = true /\ (x.hk != 0) = true) := by
     cases (x.lk != 0) <;> cases (x.hk != 0) <;> simp
    rcases hcase with g1 | ⟨g1, g2⟩ | ⟨g1, g2⟩
    focus
     clear hin
     go_quiet (fail)
     have HB1 := zpa (below_drewN (zpd W0.heap.size W0) nq)
     generalize W0.drewN nq = W1 at *
    rotate_left
    focus
     clear hin
     go_quiet (fail)
     have HB1 := zpa (below_drewN (zpd W0.heap.size W0) nq)
     generalize W0.drewN nq = W1 at *
    rotate_left
    focus
     have i1 : x.lk ≠ 0 := by simpa using g1
     have i2 : x.hk ≠ 0 := by simpa using g2
     have hlow := HXV.out i1
     have hhigh := HXW.out i2
     have i4 : ¬ (0 ≤ V.cutC n x.low x.high) := by
      rw [HIF.out] at hin
      simp only [Bool.or_eq_true, decide_eq_true_eq] at hin
      omega
     clear i1 i2 hin
     go_region_held3 (fun W' => zm W' /\ W'.cell? ⟨wr.heap.size, 0, none⟩ = some (.string ⟨x.lo.toArray⟩) /\ W'.cell? ⟨wr.heap.size, 1, none⟩ = some (.int .i64 x.lk) /\ W'.cell? ⟨wr.heap.size, 2, none⟩ = some (.string ⟨x.hi.toArray⟩) /\ W'.cell? ⟨wr.heap.size, 3, none⟩ = some (.int .i64 x.hk))
      (first
        | (go_split_ands; exact ⟨zm.below (by assumption) hbq, zpg hbq, zpg hbq, zpg hbq, zpg hbq⟩)
        | (exact ⟨HM0.out, d0, d1, d2, d3⟩)
        | go_keep)
      (first
        | (go_at_call 113; refine (zbe x _).mono ?_; rintro e wq ⟨rfl, hbq⟩)
        | (go_at_call 114; refine (yx x _).mono ?_; rintro e wq ⟨rfl, hbq⟩)
        | (go_at_call 112; refine (ju n x.low x.high _ (by first | assumption | exact And.left (by assumption)) HN.out hlow hhigh).mono ?_; rintro e wq ⟨rfl, hbq⟩))
     rename_i wa hba wb hbb hS
     have HB1 := zpa ((((zpd W0.heap.size W0).drew).trans (Below.trans (show Below W0.heap.size W0.drew wa from hba) ((hbb.trans (hbq.mono hbb.size)).mono hba.size))))
     clear hba hbb hbq hS
     generalize V.cutC n x.low x.high = z at *
     generalize wq = W1 at *
    rotate_left
    all_goals
     have HBW1 := zpa (HBW.out.trans (HB1.out.mono HBW.out.size))
     have e0 := ze HB1.out d0
     have e1 := ze HB1.out d1
     have e2 := ze HB1.out d2
     have e3 := ze HB1.out d3
     have hz2 : wr.heap.size < W1.heap.size := Nat.lt_of_lt_of_le hz1 HB1.out.size
     have HM1 := zpa (HM0.out.below HB1.out)
     clear d0 d1 d2 d3 HB1 HM0 hz1
     by_cases hk0 : k = 0
     ·have hkb : ((k : Int) == 0) = true := by rw [hk0]; rfl
      have HOK : Hid (∀ i, i < k + 1 -> V.okAt n l i = true) := zpa (za4 HZ.out (by unfold V.okAt; rw [HG.out, HIN.out, hk0]; rfl))
      clear hk0 e0 e1 e2 e3
      go_wp2
      go_roundw
      case rel => exact ⟨k + 1, by omega, by go_num, HOK.out, HBW1.out⟩
      case measure => simp [intOf]; omega
     ·have hkb : ((k : Int) == 0) = false := by rw [zpe]; omega
      have hi3 : (1 : Int) ≤ (k : Int) := by omega
      have hi4 : (k : Int) - 1 < (l.length : Int) := by omega
      have hk1 : k - 1 < l.length := by omega
      obtain ⟨b', off', eb, hb1, hy⟩ := HV.out.at (k - 1) hk1
      cases eb
      obtain ⟨y0, y1, y2, y3⟩ := hy.below hb1 HBW1.out
      have HBY : Hid (V.zu n l[k - 1] = true) := zpa (HB.out _ (List.getElem_mem hk1))
      have HGY := zpa (zej hk1)
      generalize l[k - 1] = y at *
      have HNB : Hid (V.zdh n y x = (!decide (y.hk = 0) && (!decide (x.lk = 0) && decide (V.cutC n y.high x.low < 0)))) := zpa rfl
      have HOKF : Hid (V.okAt n l k = V.zdh n y x) := zpa (by unfold V.okAt; rw [HG.out, HGY.out, HIN.out, decide_eq_false hk0]; rfl)
      have hbV : Below w.heap.size w (W1.alloc (.cells #[.string ⟨y.lo.toArray⟩, .int .i64 y.lk, .string ⟨y.hi.toArray⟩, .int .i64 y.hk] 83)) := HBW1.out.alloc HBW1.out.size _
      have HBV := zpa hbV
      have hbA : Below W1.heap.size W1 (W1.alloc (.cells #[.string ⟨y.lo.toArray⟩, .int .i64 y.lk, .string ⟨y.hi.toArray⟩, .int .i64 y.hk] 83)) := (zpd _ W1).alloc (zpc _) _
      have e0' := ze hbA e0
      have e1' := ze hbA e1
      have e2' := ze hbA e2
      have e3' := ze hbA e3
      have hy4 : ws (W1.alloc (.cells #[.string ⟨y.lo.toArray⟩, .int .i64 y.lk, .string ⟨y.hi.toArray⟩, .int .i64 y.hk] 83)) W1.heap.size 0 y := by
       refine ⟨?_, ?_, ?_, ?_⟩ <;> simp [zj]
      have HY4 := zpa hy4
      have HM2 := zpa (HM1.out.below hbA)
      clear hy hy4 hbV hbA hk0 hb1
      go_wp2_with fail
      generalize W1.alloc (.cells #[.string ⟨y.lo.toArray⟩, .int .i64 y.lk, .string ⟨y.hi.toArray⟩, .int .i64 y.hk] 83) = W2 at *
      obtain ⟨f0, f1, f2, f3⟩ := HY4.out
      rw [Nat.zero_add] at f1 f2 f3
      clear y0 y1 y2 y3 e0 e1 e2 e3
      have hcase2 : (y.hk == 0) = true ∨ ((y.hk == 0) = false /\ (x.lk == 0) = true) ∨ ((y.hk == 0) = false /\ (x.lk == 0) = false) := by
       cases (y.hk == 0) <;> cases (x.lk == 0) <;> simp
      rcases hcase2 with q1 | ⟨q1, q2⟩ | ⟨q1, q2⟩
      ·have HNO : Hid (V.ordB n l = false) := zpa (zc7 hlt (by rw [HOKF.out, HNB.out, decide_eq_true (eq_of_beq q1)]; rfl))
       exact zrp
      ·have HNO : Hid (V.ordB n l = false) := zpa (zc7 hlt (by rw [HOKF.out, HNB.out, decide_eq_true (eq_of_beq q2)]; simp))
       exact zrp
      ·have i1 : y.hk ≠ 0 := by simpa using q1
       have i2 : x.lk ≠ 0 := by simpa using q2
       have hlow := HXV.out i2
       have hhigh := V.jd HBY.out i1
       have HNB2 : Hid (V.okAt n l k = decide (V.cutC n y.high x.low < 0)) := zpa (by rw [HOKF.out, HNB.out, decide_eq_false i1, decide_eq_false i2]; simp)
       clear i1 i2
       go_region_held3 (fun W' => zm W' /\ W'.cell? ⟨wr.heap.size, 0, none⟩ = some (.string ⟨x.lo.toArray⟩) /\ W'.cell? ⟨wr.heap.size, 1, none⟩ = some (.int .i64 x.lk) /\ W'.cell? ⟨wr.heap.size, 2, none⟩ = some (.string ⟨x.hi.toArray⟩) /\ W'.cell? ⟨wr.heap.size, 3, none⟩ = some (.int .i64 x.hk) /\
         W'.cell? ⟨W1.heap.size, 0, none⟩ = some (.string ⟨y.lo.toArray⟩) /\ W'.cell? ⟨W1.heap.size, 1, none⟩ = some (.int .i64 y.lk) /\ W'.cell? ⟨W1.heap.size, 2, none⟩ = some (.string ⟨y.hi.toArray⟩) /\ W'.cell? ⟨W1.heap.size, 3, none⟩ = some (.int .i64 y.hk))
        (first
          | (go_split_ands; exact ⟨zm.below (by assumption) hbq, zpg hbq, zpg hbq, zpg hbq, zpg hbq, zpg hbq, zpg hbq, zpg hbq, zpg hbq⟩)
          | (exact ⟨HM2.out, e0', e1', e2', e3', f0, f1, f2, f3⟩)
          | go_keep)
        (first
          | (go_at_call 113; refine (zbe x _).mono ?_; rintro e wq ⟨rfl, hbq⟩)
          | (go_at_call 114; refine (yx y _).mono ?_; rintro e wq ⟨rfl, hbq⟩)
          | (go_at_call 112; refine (ju n y.high x.low _ (by first | assumption | exact And.left (by assumption)) HN.out hhigh hlow).mono ?_; rintro e wq ⟨rfl, hbq⟩))
       rename_i wa hba wb hbb hS
       have HBZ := zpa (HBV.out.trans ((((zpd W2.heap.size W2).drew).trans (Below.trans (show Below W2.heap.size W2.drew wa from hba) ((hbb.trans (hbq.mono hbb.size)).mono hba.size))).mono HBV.out.size))
       clear hba hbb hbq hS f0 f1 f2 f3 e0' e1' e2' e3'
       generalize V.cutC n y.high x.low = z2 at *
       by_cases hzz : 0 ≤ z2
       ·have HNO : Hid (V.ordB n l = false) := zpa (zc7 hlt (by rw [HNB2.out]; exact decide_eq_false (by omega)))
        go_wp2
        go_ret
        exact ⟨zf HNO.out.symm, HBZ.out⟩
       ·have HOK : Hid (∀ i, i < k + 1 -> V.okAt n l i = true) := zpa (za4 HZ.out (by rw [HNB2.out]; exact decide_eq_true (by omega)))
        exact zqx
  ·obtain rfl : k = l.length := by omega
   have HR : Hid (V.ordB n l = true) := zpa ((V.zb4 n l).2 HZ.out)
   go_wp2
   go_ret
   exact ⟨zf HR.out.symm, HBX.out⟩
def setV (n : Int) (v : Value) : Value := .agg #[.int .i64 n, v]
def Lens (l : List V.Itv) : Prop := ∀ x ∈ l, x.lo.length ≤ maxLen /\ x.hi.length ≤ maxLen
theorem zjx {n : Int} {l : List V.Itv} {k : Nat} (h : (l.take k).all (V.zu n) = true) (hk : k < l.length) (hb : V.zu n l[k] = true) : (l.take (k + 1)).all (V.zu n) = true := by
 rw [List.take_succ_eq_append_getElem hk, List.all_append, h]
 simpa using hb
theorem bnd_no {n : Int} {l : List V.Itv} {k : Nat} (hk : k < l.length) (hb : V.zu n l[k] = false) : l.all (V.zu n) = false := by
 rw [List.all_eq_false]
 exact ⟨l[k], List.getElem_mem hk, by rw [hb]; decide⟩
theorem zpv {P : Prop} (h : P := by
 rintro e W3 ⟨rfl, hb3⟩
 have HB3 := zpb HB2 hb3
 clear hb3 k0 k2 k3
 rcases hhi : V.jf n x.hi x.hk with _ | _
 ·have HR : Hid (V.okR n l = false) := zpa (by rw [HF2.out, HNO.out (by rw [HBD.out, HLO.out, hhi]; rfl)]; rfl)
  clear hhi
  go_wp2
  go_ret
  exact ⟨zf HR.out.symm, HB0.out.trans (HB3.out.mono HB0.out.size)⟩
 ·have HY : Hid ((l.take (k + 1)).all (V.zu n) = true) := zpa (HYES.out (by rw [HBD.out, HLO.out, hhi]; rfl))
  clear hhi
  go_wp2
  go_roundw
  case rel => exact ⟨k + 1, by omega, by go_num, HY.out, HB3.out⟩
  case measure => simp [intOf]; omega) : P := h
theorem zqb {P : Prop} (h : P := by
 go_enter Tryz.func111, Tryz.ntmps111
 go_wp2_with fail
 generalize w.alloc (.cells #[.int .i64 n, .slice va l.length vc] 68) = w0 at *
 refine (vl n w0).mono ?_
 rintro e w' ⟨rfl, rfl⟩
 rw [HSC.out]
 go_wp2
 go_ret
 exact ⟨zf HR.out.symm, HB0.out⟩) : P := h
theorem zq2 {P : Prop} (h : P := by
 have HR : Hid (V.okR n l = false) := zpa (by rw [HF2.out, HNO.out (by rw [HBD.out, hlo]; rfl)]; rfl)
 clear hlo
 go_wp2
 go_ret
 exact ⟨zf HR.out.symm, HB0.out.trans (HB2.out.mono HB0.out.size)⟩) : P := h
theorem zdv (n : Int) (v : Value) (l : List V.Itv) (w : World) (hm : zm w) (hv : Itvs w v l) (hs : Lens l) (hl : l.length ≤ maxLen) :
  Calls Tryz.prog 111 #[setV n v] w fun e w' => e = .returned (.bool (V.okR n l)) /\ Below w.heap.size w w' := by
 have HV := zpa hv
 obtain ⟨va, vc, rfl⟩ := hv.slice
 unfold maxLen at hl
 have HS := zpa hs
 have HF : Hid (V.okR n l = (V.scheme n && (decide (l.length ≤ 32) && (l.all (V.zu n) && V.ordB n l)))) := zpa rfl
 have hb0 : Below w.heap.size w (w.alloc (.cells #[.int .i64 n, .slice va l.length vc] 68)) := (zpd _ w).alloc (zpc _) _
 have HB0 := zpa hb0
 have HM := zpa (hm.below hb0)
 have c0 : (w.alloc (.cells #[.int .i64 n, .slice va l.length vc] 68)).cell? ⟨w.heap.size, 0, none⟩ = some (.int .i64 n) := by simp [zj]
 have c1 : (w.alloc (.cells #[.int .i64 n, .slice va l.length vc] 68)).cell? ⟨w.heap.size, 1, none⟩ = some (.slice va l.length vc) := by simp [zj]
 clear hv hs hb0 hm
 unfold setV
 rcases hsch : V.scheme n with _ | _
 ·have HR : Hid (V.okR n l = false) := zpa (by rw [HF.out, hsch]; rfl)
  have HSC := zpa hsch
  clear hsch
  exact zqb
 ·have HSC := zpa hsch
  clear hsch
  by_cases h32 : 32 < l.length
  ·have HR : Hid (V.okR n l = false) := zpa (by rw [HF.out, decide_eq_false (show ¬ l.length ≤ 32 by omega), Bool.false_and, Bool.and_false])
   exact zqb
  ·have h32' : l.length ≤ 32 := by omega
   have HF2 : Hid (V.okR n l = (l.all (V.zu n) && V.ordB n l)) := zpa (by rw [HF.out, HSC.out, decide_eq_true h32']; rfl)
   have hz0 : w.heap.size < (w.alloc (.cells #[.int .i64 n, .slice va l.length vc] 68)).heap.size := by simp
   go_enter Tryz.func111, Tryz.ntmps111
   go_wp2_with fail
   generalize w.alloc (.cells #[.int .i64 n, .slice va l.length vc] 68) = w0 at *
   refine (vl n w0).mono ?_
   rintro e w' ⟨rfl, rfl⟩
   rw [HSC.out]
   go_wp2
   go_loopw [18] (fun iv wx => ∃ k : Nat, k ≤ l.length /\ iv = .int .i64 k /\ (l.take k).all (V.zu n) = true /\ Below w'.heap.size w' wx) (fun iv _ => l.length - (intOf iv).toNat)
   case atStart => exact ⟨0, Nat.zero_le _, rfl, rfl, zpd _ _⟩
   case round =>
    obtain ⟨k, hk, rfl, hz, hbx⟩ := hrel
    have HZ := zpa hz
    have HBX := zpa hbx
    have HBF := zpb HB0 hbx
    have d0 := (hbx.cell (p := ⟨w.heap.size, 0, none⟩) hz0).trans c0
    have d1 := (hbx.cell (p := ⟨w.heap.size, 1, none⟩) hz0).trans c1
    clear hz hbx
    by_cases hlt : k < l.length
    ·obtain ⟨b, off, rfl, hb0, hx⟩ := HV.out.at k hlt
     obtain ⟨h0, h1, h2, h3⟩ := hx.below hb0 HBF.out
     have hi1 : (0 : Int) ≤ (k : Int) := by omega
     have hi2 : (k : Int) < (l.length : Int) := by omega
     have hlens := HS.out _ (List.getElem_mem hlt)
     have HBD : Hid (V.zu n l[k] = (V.jf n l[k].lo l[k].lk && V.jf n l[k].hi l[k].hk)) := zpa rfl
     have HYES := zpa (fun hb => zjx (n := n) HZ.out hlt hb)
     have HNO := zpa (fun hb => bnd_no (n := n) hlt hb)
     clear hx
     generalize l[k] = x at *
     have hbA : Below wr.heap.size wr (wr.alloc (.cells #[.string ⟨x.lo.toArray⟩, .int .i64 x.lk, .string ⟨x.hi.toArray⟩, .int .i64 x.hk] 83)) := (zpd _ wr).alloc (zpc _) _
     have HM1 := zpa ((HM.out.below HBX.out).below hbA)
     have HBA := zpb HBX hbA
     have e0 := ze hbA d0
     have hx4 : ws (wr.alloc (.cells #[.string ⟨x.lo.toArray⟩, .int .i64 x.lk, .string ⟨x.hi.toArray⟩, .int .i64 x.hk] 83)) wr.heap.size 0 x := by
      refine ⟨?_, ?_, ?_, ?_⟩ <;> simp [zj]
     have HX4 := zpa hx4
     clear hbA hx4
     go_wp2_with fail
     generalize wr.alloc (.cells #[.string ⟨x.lo.toArray⟩, .int .i64 x.lk, .string ⟨x.hi.toArray⟩, .int .i64 x.hk] 83) = W1 at *
     obtain ⟨f0, f1, f2, f3⟩ := HX4.out
     rw [Nat.zero_add] at f1 f2 f3
     clear h0 h1 h2 h3 d0 d1
     refine (zdk n x.lo x.lk W1 HM1.out hlens.1).mono ?_
     rintro e W2 ⟨rfl, hb2⟩
     have k0 := ze hb2 e0
     have k2 := ze hb2 f2
     have k3 := ze hb2 f3
     have HB2 := zpb HBA hb2
     have HM2 := zpa (HM1.out.below hb2)
     clear hb2 e0 f0 f1 f2 f3
     rcases hlo : V.jf n x.lo x.lk with _ | _
     ·exact zq2
     ·have HLO := zpa hlo
      clear hlo
      go_wp2_with fail
      refine (zdk n x.hi x.hk W2 HM2.out hlens.2).mono ?_
      exact zpv
    ·obtain rfl : k = l.length := by omega
     have HALL : Hid (l.all (V.zu n) = true) := zpa (by have := HZ.out; rwa [List.take_length] at this)
     go_wp2_with fail
     refine (zgv n _ l wr (HM.out.below HBX.out) HSC.out (HV.out.below HBF.out) (fun x hx => List.all_eq_true.1 HALL.out x hx) (by omega)).mono ?_
     rintro e W3 ⟨rfl, hb3⟩
     have HB3 := zpb HBF hb3
     have HR : Hid (V.okR n l = V.ordB n l) := zpa (by rw [HF2.out, HALL.out]; rfl)
     clear hb3
     go_wp2
     go_ret
     exact ⟨zf HR.out.symm, HB3.out⟩
open Go.RowKit
section
variable {P : Program} {ops : Array Oper} {Q : Exit -> Act -> World -> Prop} {md : Region.Mode} {S : World -> Prop}
theorem tk (i : Nat) {oi : Oper} {v : Value} {fuel : Nat} {l l' : Array Bool} {a a' : Act} {w : World}
  (h : wpAnyH P md ops Q S fuel l' a' w)
  (hi : ops[i]? = some oi := by rfl) (hs : Region.noSelect ops = true := by kernel_rfl) (hf : Region.free md ops l i = true := by kernel_rfl)
  (hr : (Region.ready md ops l).contains i = true := by kernel_rfl)
  (hQ : ∀ c a w, Q (.panic c) (a.put oi.dst v) w -> Q (.panic c) a w := by exact fun _ _ _ h => h)
  (hw : Region.wanted oi (yielded ops a.tmps) = true := by rfl)
  (hy : ∀ w, S w -> (execOp a.eval oi).run P w = .ok (.value v) w := by intro w' hSw; (try dsimp only at hSw); go_simp; try with_reducible rfl)
  (hS : S w := by assumption)
  (hl : l.setIfInBounds i true = l' := by (try simp only [zo8, List.set_cons_succ, List.set_cons_zero]); exact rfl)
  (ha : a.put oi.dst v = a' := by (try simp only [zo5, zo6, zo7, Act.put, zo8, List.set_cons_succ, List.set_cons_zero]); exact rfl) :
  wpAnyH P md ops Q S (fuel + 1) l a w := by
 subst hl ha
 exact wpAnyH_take hi hs hf hr hQ (Or.inl ⟨hw, hy⟩) hS h
theorem tu (i : Nat) {oi : Oper} {fuel : Nat} {l l' : Array Bool} {a a' : Act} {w : World}
  (h : wpAnyH P md ops Q S fuel l' a' w)
  (hi : ops[i]? = some oi := by rfl) (hs : Region.noSelect ops = true := by kernel_rfl) (hf : Region.free md ops l i = true := by kernel_rfl)
  (hr : (Region.ready md ops l).contains i = true := by kernel_rfl)
  (hQ : ∀ c a w, Q (.panic c) (a.put oi.dst undef) w -> Q (.panic c) a w := by exact fun _ _ _ h => h)
  (hw : Region.wanted oi (yielded ops a.tmps) = false := by rfl)
  (hS : S w := by assumption)
  (hl : l.setIfInBounds i true = l' := by (try simp only [zo8, List.set_cons_succ, List.set_cons_zero]); exact rfl)
  (ha : a.put oi.dst undef = a' := by (try simp only [zo5, zo6, zo7, Act.put, zo8, List.set_cons_succ, List.set_cons_zero]); exact rfl) :
  wpAnyH P md ops Q S (fuel + 1) l a w := by
 subst hl ha
 exact wpAnyH_take hi hs hf hr hQ (Or.inr ⟨hw, rfl⟩) hS h
theorem rd (i : Nat) {o : Oper} {fuel : Nat} {l : Array Bool} {a : Act} {w : World}
  (h : ∀ K' : Act -> World -> Prop, Shut (∀ a w, S w -> (S w -> wpAnyH P md ops Q S fuel (l.setIfInBounds i true) a w) -> K' a w) -> if Region.wanted o (yielded ops a.tmps) = true then Oper.wp P o a w K' Q else K' (a.put o.dst undef) w)
  (hi : ops[i]? = some o := by exact rfl) (hr : Region.ready md ops l = [i] := by kernel_rfl) :
  wpAnyH P md ops Q S (fuel + 1) l a w :=
 wpAnyH_ready hr (by simp) (AllReadyH.cons hi h AllReadyH.nil)
theorem nx {i : Nat} {fuel : Nat} {l l' : Array Bool} {a a' : Act} {w : World}
  (h : wpAnyH P md ops Q S fuel l' a' w)
  (hl : l.setIfInBounds i true = l' := by (try simp only [zo8, List.set_cons_succ, List.set_cons_zero]); exact rfl)
  (ha : a = a' := by (try simp only [zo5, zo6, zo7, Act.put, zo8, List.set_cons_succ, List.set_cons_zero]); exact rfl) :
  wpAnyH P md ops Q S fuel (l.setIfInBounds i true) a w := by
 subst hl ha
 exact h
theorem tv (i : Nat) {oi : Oper} (v : Value) {fuel : Nat} {l l' : Array Bool} {a a' : Act} {w : World}
  (hy : ∀ w, S w -> (execOp a.eval oi).run P w = .ok (.value v) w)
  (h : wpAnyH P md ops Q S fuel l' a' w)
  (hi : ops[i]? = some oi := by exact rfl) (hs : Region.noSelect ops = true := by kernel_rfl) (hf : Region.free md ops l i = true := by kernel_rfl)
  (hr : (Region.ready md ops l).contains i = true := by kernel_rfl)
  (hQ : ∀ c a w, Q (.panic c) (a.put oi.dst v) w -> Q (.panic c) a w := by exact fun _ _ _ h => h)
  (hw : Region.wanted oi (yielded ops a.tmps) = true := by rfl)
  (hS : S w := by assumption)
  (hl : l.setIfInBounds i true = l' := by (try simp only [zo8, List.set_cons_succ, List.set_cons_zero]); exact rfl)
  (ha : a.put oi.dst v = a' := by (try simp only [zo5, zo6, zo7, Act.put, zo8, List.set_cons_succ, List.set_cons_zero]); exact rfl) :
  wpAnyH P md ops Q S (fuel + 1) l a w := by
 subst hl ha
 exact wpAnyH_take hi hs hf hr hQ (Or.inl ⟨hw, hy⟩) hS h
end
end Go.Proofs.YtbikeahmldobkaaGreatDoor

/-
  Lemmas for the law.
-/
import Derived.Test.YtiloljoancdcbaaGreatDoorC40x19
import Derived.Test.YtiloljoancdcbaaGreatDoorC40x02
import Derived.Deep.RegionHeld3
set_option linter.all false
set_option maxRecDepth 100000
set_option maxHeartbeats 3200000
namespace Go.Proofs.YtiloljoancdcbaaGreatDoor
open Go.RowKit
def setV (n : Int) (v : Value) : Value := .agg #[.int .i64 n, v]
def Lens (l : List V.Itv) : Prop := ∀ x ∈ l, x.lo.length ≤ maxLen /\ x.hi.length ≤ maxLen
theorem zp2 {n : Int} {l : List V.Itv} {k : Nat} (h : (l.take k).all (V.zj n) = true) (hk : k < l.length) (hb : V.zj n l[k] = true) : (l.take (k + 1)).all (V.zj n) = true := by
 rw [List.take_succ_eq_append_getElem hk, List.all_append, h]
 simpa using hb
theorem bnd_no {n : Int} {l : List V.Itv} {k : Nat} (hk : k < l.length) (hb : V.zj n l[k] = false) : l.all (V.zj n) = false := by
 rw [List.all_eq_false]
 exact ⟨l[k], List.getElem_mem hk, by rw [hb]; decide⟩
theorem zxk {P : Prop} (h : P := by
 rintro e W3 ⟨rfl, hb3⟩
 have HB3 := zvr HB2 hb3
 clear hb3 k0 k2 k3
 rcases hhi : V.jx n x.hi x.hk with _ | _
 ·have HR : Hid (V.okR n l = false) := zvq (by rw [HF2.out, HNO.out (by rw [HBD.out, HLO.out, hhi]; rfl)]; rfl)
  clear hhi
  go_wp2
  go_ret
  exact ⟨zc HR.out.symm, HB0.out.trans (HB3.out.mono HB0.out.size)⟩
 ·have HY : Hid ((l.take (k + 1)).all (V.zj n) = true) := zvq (HYES.out (by rw [HBD.out, HLO.out, hhi]; rfl))
  clear hhi
  go_wp2
  go_roundw
  case rel => exact ⟨k + 1, by omega, by go_num, HY.out, HB3.out⟩
  case measure => simp [intOf]; omega) : P := h
theorem zyd {P : Prop} (h : P := by
 go_enter Tryz.func51, Tryz.ntmps51
 go_wp2_with fail
 generalize w.alloc (.cells #[.int .i64 n, .slice va l.length vc] 32) = w0 at *
 refine (za0 n w0).mono ?_
 rintro e w' ⟨rfl, rfl⟩
 rw [HSC.out]
 go_wp2
 go_ret
 exact ⟨zc HR.out.symm, HB0.out⟩) : P := h
theorem zzh {P : Prop} (h : P := by
 have HR : Hid (V.okR n l = false) := zvq (by rw [HF2.out, HNO.out (by rw [HBD.out, hlo]; rfl)]; rfl)
 clear hlo
 go_wp2
 go_ret
 exact ⟨zc HR.out.symm, HB0.out.trans (HB2.out.mono HB0.out.size)⟩) : P := h
theorem zar (n : Int) (v : Value) (l : List V.Itv) (w : World) (hm : zg w) (hv : Itvs w v l) (hs : Lens l) (hl : l.length ≤ maxLen) :
  Calls Tryz.prog 51 #[setV n v] w fun e w' => e = .returned (.bool (V.okR n l)) /\ Below w.heap.size w w' := by
 have HV := zvq hv
 obtain ⟨va, vc, rfl⟩ := hv.slice
 unfold maxLen at hl
 have HS := zvq hs
 have HF : Hid (V.okR n l = (V.scheme n && (decide (l.length ≤ 32) && (l.all (V.zj n) && V.ordB n l)))) := zvq rfl
 have hb0 : Below w.heap.size w (w.alloc (.cells #[.int .i64 n, .slice va l.length vc] 32)) := (zvt _ w).alloc (zvs _) _
 have HB0 := zvq hb0
 have HM := zvq (hm.below hb0)
 have c0 : (w.alloc (.cells #[.int .i64 n, .slice va l.length vc] 32)).cell? ⟨w.heap.size, 0, none⟩ = some (.int .i64 n) := by simp [ze]
 have c1 : (w.alloc (.cells #[.int .i64 n, .slice va l.length vc] 32)).cell? ⟨w.heap.size, 1, none⟩ = some (.slice va l.length vc) := by simp [ze]
 clear hv hs hb0 hm
 unfold setV
 rcases hsch : V.scheme n with _ | _
 ·have HR : Hid (V.okR n l = false) := zvq (by rw [HF.out, hsch]; rfl)
  have HSC := zvq hsch
  clear hsch
  exact zyd
 ·have HSC := zvq hsch
  clear hsch
  by_cases h32 : 32 < l.length
  ·have HR : Hid (V.okR n l = false) := zvq (by rw [HF.out, decide_eq_false (show ¬ l.length ≤ 32 by omega), Bool.false_and, Bool.and_false])
   exact zyd
  ·have h32' : l.length ≤ 32 := by omega
   have HF2 : Hid (V.okR n l = (l.all (V.zj n) && V.ordB n l)) := zvq (by rw [HF.out, HSC.out, decide_eq_true h32']; rfl)
   have hz0 : w.heap.size < (w.alloc (.cells #[.int .i64 n, .slice va l.length vc] 32)).heap.size := by simp
   go_enter Tryz.func51, Tryz.ntmps51
   go_wp2_with fail
   generalize w.alloc (.cells #[.int .i64 n, .slice va l.length vc] 32) = w0 at *
   refine (za0 n w0).mono ?_
   rintro e w' ⟨rfl, rfl⟩
   rw [HSC.out]
   go_wp2
   go_loopw [18] (fun iv wx => ∃ k : Nat, k ≤ l.length /\ iv = .int .i64 k /\ (l.take k).all (V.zj n) = true /\ Below w'.heap.size w' wx) (fun iv _ => l.length - (intOf iv).toNat)
   case atStart => exact ⟨0, Nat.zero_le _, rfl, rfl, zvt _ _⟩
   case round =>
    obtain ⟨k, hk, rfl, hz, hbx⟩ := hrel
    have HZ := zvq hz
    have HBX := zvq hbx
    have HBF := zvr HB0 hbx
    have d0 := (hbx.cell (p := ⟨w.heap.size, 0, none⟩) hz0).trans c0
    have d1 := (hbx.cell (p := ⟨w.heap.size, 1, none⟩) hz0).trans c1
    clear hz hbx
    by_cases hlt : k < l.length
    ·obtain ⟨b, off, rfl, hb0, hx⟩ := HV.out.at k hlt
     obtain ⟨h0, h1, h2, h3⟩ := hx.below hb0 HBF.out
     have hi1 : (0 : Int) ≤ (k : Int) := by omega
     have hi2 : (k : Int) < (l.length : Int) := by omega
     have hlens := HS.out _ (List.getElem_mem hlt)
     have HBD : Hid (V.zj n l[k] = (V.jx n l[k].lo l[k].lk && V.jx n l[k].hi l[k].hk)) := zvq rfl
     have HYES := zvq (fun hb => zp2 (n := n) HZ.out hlt hb)
     have HNO := zvq (fun hb => bnd_no (n := n) hlt hb)
     clear hx
     generalize l[k] = x at *
     have hbA : Below wr.heap.size wr (wr.alloc (.cells #[.string ⟨x.lo.toArray⟩, .int .i64 x.lk, .string ⟨x.hi.toArray⟩, .int .i64 x.hk] 87)) := (zvt _ wr).alloc (zvs _) _
     have HM1 := zvq ((HM.out.below HBX.out).below hbA)
     have HBA := zvr HBX hbA
     have e0 := za hbA d0
     have hx4 : zb3 (wr.alloc (.cells #[.string ⟨x.lo.toArray⟩, .int .i64 x.lk, .string ⟨x.hi.toArray⟩, .int .i64 x.hk] 87)) wr.heap.size 0 x := by
      exact z1i
     have HX4 := zvq hx4
     clear hbA hx4
     go_wp2_with fail
     generalize wr.alloc (.cells #[.string ⟨x.lo.toArray⟩, .int .i64 x.lk, .string ⟨x.hi.toArray⟩, .int .i64 x.hk] 87) = W1 at *
     obtain ⟨f0, f1, f2, f3⟩ := HX4.out
     rw [Nat.zero_add] at f1 f2 f3
     clear h0 h1 h2 h3 d0 d1
     refine (zic n x.lo x.lk W1 HM1.out hlens.1).mono ?_
     rintro e W2 ⟨rfl, hb2⟩
     have k0 := za hb2 e0
     have k2 := za hb2 f2
     have k3 := za hb2 f3
     have HB2 := zvr HBA hb2
     have HM2 := zvq (HM1.out.below hb2)
     clear hb2 e0 f0 f1 f2 f3
     rcases hlo : V.jx n x.lo x.lk with _ | _
     ·exact zzh
     ·have HLO := zvq hlo
      clear hlo
      go_wp2_with fail
      refine (zic n x.hi x.hk W2 HM2.out hlens.2).mono ?_
      exact zxk
    ·obtain rfl : k = l.length := by omega
     have HALL : Hid (l.all (V.zj n) = true) := zvq (by have := HZ.out; rwa [List.take_length] at this)
     go_wp2_with fail
     refine (zmi n _ l wr (HM.out.below HBX.out) HSC.out (HV.out.below HBF.out) (fun x hx => List.all_eq_true.1 HALL.out x hx) (by omega)).mono ?_
     rintro e W3 ⟨rfl, hb3⟩
     have HB3 := zvr HBF hb3
     have HR : Hid (V.okR n l = V.ordB n l) := zvq (by rw [HF2.out, HALL.out]; rfl)
     clear hb3
     go_wp2
     go_ret
     exact ⟨zc HR.out.symm, HB3.out⟩
section
variable {P : Program} {ops : Array Oper} {Q : Exit -> Act -> World -> Prop} {md : Region.Mode} {S : World -> Prop}
theorem tk (i : Nat) {oi : Oper} {v : Value} {fuel : Nat} {l l' : Array Bool} {a a' : Act} {w : World}
  (h : wpAnyH P md ops Q S fuel l' a' w)
  (hi : ops[i]? = some oi := by rfl) (hs : Region.noSelect ops = true := by kernel_rfl) (hf : Region.free md ops l i = true := by kernel_rfl)
  (hr : (Region.ready md ops l).contains i = true := by kernel_rfl)
  (hQ : ∀ c a w, Q (.panic c) (a.put oi.dst v) w -> Q (.panic c) a w := by exact fun _ _ _ h => h)
  (hw : Region.wanted oi (yielded ops a.tmps) = true := by rfl)
  (hy : ∀ w, S w -> (execOp a.eval oi).run P w = .ok (.value v) w := by intro w' hSw; (try dsimp only at hSw); go_simp; try with_reducible rfl)
  (hS : S w := by assumption)
  (hl : l.setIfInBounds i true = l' := by (try simp only [zvo, List.set_cons_succ, List.set_cons_zero]); exact rfl)
  (ha : a.put oi.dst v = a' := by (try simp only [zvl, zvm, zvn, Act.put, zvo, List.set_cons_succ, List.set_cons_zero]); exact rfl) :
  wpAnyH P md ops Q S (fuel + 1) l a w := by
 subst hl ha
 exact wpAnyH_take hi hs hf hr hQ (Or.inl ⟨hw, hy⟩) hS h
theorem tu (i : Nat) {oi : Oper} {fuel : Nat} {l l' : Array Bool} {a a' : Act} {w : World}
  (h : wpAnyH P md ops Q S fuel l' a' w)
  (hi : ops[i]? = some oi := by rfl) (hs : Region.noSelect ops = true := by kernel_rfl) (hf : Region.free md ops l i = true := by kernel_rfl)
  (hr : (Region.ready md ops l).contains i = true := by kernel_rfl)
  (hQ : ∀ c a w, Q (.panic c) (a.put oi.dst undef) w -> Q (.panic c) a w := by exact fun _ _ _ h => h)
  (hw : Region.wanted oi (yielded ops a.tmps) = false := by rfl)
  (hS : S w := by assumption)
  (hl : l.setIfInBounds i true = l' := by (try simp only [zvo, List.set_cons_succ, List.set_cons_zero]); exact rfl)
  (ha : a.put oi.dst undef = a' := by (try simp only [zvl, zvm, zvn, Act.put, zvo, List.set_cons_succ, List.set_cons_zero]); exact rfl) :
  wpAnyH P md ops Q S (fuel + 1) l a w := by
 subst hl ha
 exact wpAnyH_take hi hs hf hr hQ (Or.inr ⟨hw, rfl⟩) hS h
theorem rd (i : Nat) {o : Oper} {fuel : Nat} {l : Array Bool} {a : Act} {w : World}
  (h : ∀ K' : Act -> World -> Prop, Shut (∀ a w, S w -> (S w -> wpAnyH P md ops Q S fuel (l.setIfInBounds i true) a w) -> K' a w) -> if Region.wanted o (yielded ops a.tmps) = true then Oper.wp P o a w K' Q else K' (a.put o.dst undef) w)
  (hi : ops[i]? = some o := by exact rfl) (hr : Region.ready md ops l = [i] := by kernel_rfl) :
  wpAnyH P md ops Q S (fuel + 1) l a w :=
 wpAnyH_ready hr (by simp) (AllReadyH.cons hi h AllReadyH.nil)
theorem nx {i : Nat} {fuel : Nat} {l l' : Array Bool} {a a' : Act} {w : World}
  (h : wpAnyH P md ops Q S fuel l' a' w)
  (hl : l.setIfInBounds i true = l' := by (try simp only [zvo, List.set_cons_succ, List.set_cons_zero]); exact rfl)
  (ha : a = a' := by (try simp only [zvl, zvm, zvn, Act.put, zvo, List.set_cons_succ, List.set_cons_zero]); exact rfl) :
  wpAnyH P md ops Q S fuel (l.setIfInBounds i true) a w := by
 subst hl ha
 exact h
end
open Go.RowKit
theorem zyb {P : Prop} (h : P := by
 go_enter Tryz.func57, Tryz.ntmps57
 go_wp2_with fail
 generalize w.alloc (.cells #[.int .i64 n, .slice va l.length vc] 32) = w0 at *
 refine (zb9 n w0).mono ?_
 rintro e w' ⟨rfl, rfl⟩
 rw [HSC.out]
 go_wp2
 go_ret
 exact ⟨zc HR.out.symm, HB0.out⟩) : P := h
theorem zzj {P : Prop} (h : P := by
 (try dsimp only); go_split_ands; exact ⟨zg.below (by assumption) hbc23, zvw hbc23, zvw hbc23, zvw hbc23, zvw hbc23, zvw hbc23, zvw hbc23, zvw hbc23, zvw hbc23, zvw hbc23, zvw hbc23⟩) : P := h
theorem zzk {P : Prop} (h : P := by
 (try dsimp only); go_split_ands; exact ⟨zg.below (by assumption) hbc22, zvw hbc22, zvw hbc22, zvw hbc22, zvw hbc22, zvw hbc22, zvw hbc22, zvw hbc22, zvw hbc22, zvw hbc22, zvw hbc22⟩) : P := h
theorem z0o {P : Prop} (h : P := by
 (try dsimp only); go_split_ands; exact ⟨zg.below (by assumption) hbc6, zvw hbc6, zvw hbc6, zvw hbc6, zvw hbc6, zvw hbc6, zvw hbc6⟩) : P := h
theorem z0p {P : Prop} (h : P := by
 (try dsimp only); go_split_ands; exact ⟨zg.below (by assumption) hbc5, zvw hbc5, zvw hbc5, zvw hbc5, zvw hbc5, zvw hbc5, zvw hbc5⟩) : P := h
theorem z0q {P : Prop} (h : P := by
 (try dsimp only); go_split_ands; exact ⟨zg.below (by assumption) hbc3, zvw hbc3, zvw hbc3, zvw hbc3, zvw hbc3, zvw hbc3, zvw hbc3⟩) : P := h
theorem zb2 (n : Int) (v : Value) (l : List V.Itv) (w : World) (hm : zg w) (hv : Itvs w v l) (hs : Lens l) (hl : l.length ≤ maxLen) :
  Calls Tryz.prog 57 #[setV n v] w fun e w' => e = .returned (.bool (V.okR n l)) /\ Below w.heap.size w w' := by
 have HV := zvq hv
 obtain ⟨va, vc, rfl⟩ := hv.slice
 unfold maxLen at hl
 have HS := zvq hs
 have HF : Hid (V.okR n l = (V.scheme n && (decide (l.length ≤ 32) && (l.all (V.zj n) && V.ordB n l)))) := zvq rfl
 have hb0 : Below w.heap.size w (w.alloc (.cells #[.int .i64 n, .slice va l.length vc] 32)) := (zvt _ w).alloc (zvs _) _
 have HB0 := zvq hb0
 have HM := zvq (hm.below hb0)
 have c0 : (w.alloc (.cells #[.int .i64 n, .slice va l.length vc] 32)).cell? ⟨w.heap.size, 0, none⟩ = some (.int .i64 n) := by simp [ze]
 have c1 : (w.alloc (.cells #[.int .i64 n, .slice va l.length vc] 32)).cell? ⟨w.heap.size, 1, none⟩ = some (.slice va l.length vc) := by simp [ze]
 clear hv hs hb0 hm
 unfold setV
 rcases hsch : V.scheme n with _ | _
 ·have HR : Hid (V.okR n l = false) := zvq (by rw [HF.out, hsch]; rfl)
  have HSC := zvq hsch
  clear hsch
  exact zyb
 ·have HSC := zvq hsch
  clear hsch
  by_cases h32 : 32 < l.length
  ·have HR : Hid (V.okR n l = false) := zvq (by rw [HF.out, decide_eq_false (show ¬ l.length ≤ 32 by omega), Bool.false_and, Bool.and_false])
   exact zyb
  ·have h32' : l.length ≤ 32 := by omega
   have HF2 : Hid (V.okR n l = (l.all (V.zj n) && V.ordB n l)) := zvq (by rw [HF.out, HSC.out, decide_eq_true h32']; rfl)
   have hz0 : w.heap.size < (w.alloc (.cells #[.int .i64 n, .slice va l.length vc] 32)).heap.size := by simp
   go_enter Tryz.func57, Tryz.ntmps57
   go_wp2_with fail
   generalize w.alloc (.cells #[.int .i64 n, .slice va l.length vc] 32) = w0 at *
   refine (zb9 n w0).mono ?_
   rintro e w' ⟨rfl, rfl⟩
   rw [HSC.out]
   go_wp2
   go_loopw [3] (fun iv wx => ∃ k : Nat, k ≤ l.length /\ iv = .int .i64 k /\ (l.take k).all (V.zj n) = true /\ Below w0.heap.size w0 wx) (fun iv _ => l.length - (intOf iv).toNat)
   case atStart => exact ⟨0, Nat.zero_le _, rfl, rfl, zvt _ _⟩
   case round =>
    obtain ⟨k, hk, rfl, hz, hbx⟩ := hrel
    have HZ := zvq hz
    have HBX := zvq hbx
    have HBF := zvr HB0 hbx
    have d0 := (hbx.cell (p := ⟨w.heap.size, 0, none⟩) hz0).trans c0
    have d1 := (hbx.cell (p := ⟨w.heap.size, 1, none⟩) hz0).trans c1
    clear hz hbx
    by_cases hlt : k < l.length
    ·obtain ⟨b, off, rfl, hb0, hx⟩ := HV.out.at k hlt
     obtain ⟨h0, h1, h2, h3⟩ := hx.below hb0 HBF.out
     have hi1 : (0 : Int) ≤ (k : Int) := by omega
     have hi2 : (k : Int) < (l.length : Int) := by omega
     have hlens := HS.out _ (List.getElem_mem hlt)
     have HBD : Hid (V.zj n l[k] = (V.jx n l[k].lo l[k].lk && V.jx n l[k].hi l[k].hk)) := zvq rfl
     have HYES := zvq (fun hb => zp2 (n := n) HZ.out hlt hb)
     have HNO := zvq (fun hb => bnd_no (n := n) hlt hb)
     clear hx
     generalize l[k] = x at *
     have hbA : Below wr.heap.size wr (wr.alloc (.cells #[.string ⟨x.lo.toArray⟩, .int .i64 x.lk, .string ⟨x.hi.toArray⟩, .int .i64 x.hk] 87)) := (zvt _ wr).alloc (zvs _) _
     have HM1 := zvq ((HM.out.below HBX.out).below hbA)
     have HBA := zvr HBX hbA
     have e0 := za hbA d0
     have hx4 : zb3 (wr.alloc (.cells #[.string ⟨x.lo.toArray⟩, .int .i64 x.lk, .string ⟨x.hi.toArray⟩, .int .i64 x.hk] 87)) wr.heap.size 0 x := by
      exact z1i
     have HX4 := zvq hx4
     clear hbA hx4
     go_wp2_with fail
     generalize wr.alloc (.cells #[.string ⟨x.lo.toArray⟩, .int .i64 x.lk, .string ⟨x.hi.toArray⟩, .int .i64 x.hk] 87) = W1 at *
     obtain ⟨f0, f1, f2, f3⟩ := HX4.out
     rw [Nat.zero_add] at f1 f2 f3
     clear h0 h1 h2 h3 d0 d1
     refine (zin n x.lo x.lk W1 HM1.out hlens.1).mono ?_
     rintro e W2 ⟨rfl, hb2⟩
     have k0 := za hb2 e0
     have k2 := za hb2 f2
     have k3 := za hb2 f3
     have HB2 := zvr HBA hb2
     have HM2 := zvq (HM1.out.below hb2)
     clear hb2 e0 f0 f1 f2 f3
     rcases hlo : V.jx n x.lo x.lk with _ | _
     ·exact zzh
     ·have HLO := zvq hlo
      clear hlo
      go_wp2_with fail
      refine (zin n x.hi x.hk W2 HM2.out hlens.2).mono ?_
      exact zxk
    ·obtain rfl : k = l.length := by omega
     have HALL : Hid (∀ x ∈ l, V.zj n x = true) := zvq (by have := HZ.out; rw [List.take_length] at this; exact List.all_eq_true.1 this)
     have HF3 : Hid (V.okR n l = V.ordB n l) := zvq (by rw [HF2.out, List.all_eq_true.2 HALL.out]; rfl)
     have HMW := zvq (HM.out.below HBX.out)
     have hzW : w.heap.size < wr.heap.size := Nat.lt_of_lt_of_le hz0 HBX.out.size
     have HD := zvq (And.intro d0 d1)
     obtain ⟨wo, hwo⟩ : ∃ wo : World, wo = wr := ⟨_, rfl⟩
     subst hwo
     go_wp2
     clear d0 d1
     go_loopw [5] (fun iv wx => ∃ k : Nat, k ≤ l.length /\ iv = .int .i64 k /\ (∀ i, i < k -> V.okAt n l i = true) /\ Below wo.heap.size wo wx) (fun iv _ => l.length - (intOf iv).toNat)
     case atStart => exact ⟨0, Nat.zero_le _, rfl, fun i hi => by omega, zvt _ _⟩
     case round =>
      obtain ⟨k, hk, rfl, hz, hbx⟩ := hrel
      have HZ := zvq hz
      have HBX := zvq hbx
      have HBG := zvr HBF hbx
      have d0 := (hbx.cell (p := ⟨w.heap.size, 0, none⟩) hzW).trans HD.out.1
      have d1 := (hbx.cell (p := ⟨w.heap.size, 1, none⟩) hzW).trans HD.out.2
      clear hz hbx
      by_cases hlt : k < l.length
      ·obtain ⟨b, off, rfl, hb0, hx⟩ := HV.out.at k hlt
       obtain ⟨h0, h1, h2, h3⟩ := hx.below hb0 HBG.out
       have hi1 : (0 : Int) ≤ (k : Int) := by omega
       have hi2 : (k : Int) < (l.length : Int) := by omega
       have HBK : Hid (V.zj n l[k] = true) := zvq (HALL.out _ (List.getElem_mem hlt))
       have HG := zvq (zjg hlt)
       clear hx
       generalize l[k] = x at *
       have hbA : Below wr.heap.size wr (wr.alloc (.cells #[.string ⟨x.lo.toArray⟩, .int .i64 x.lk, .string ⟨x.hi.toArray⟩, .int .i64 x.hk] 87)) := (zvt _ wr).alloc (zvs _) _
       have HM1 := zvq ((HMW.out.below HBX.out).below hbA)
       have HBA := zvr HBG hbA
       have HBAW := zvr HBX hbA
       have e0 := za hbA d0
       have e1 := za hbA d1
       have hx4 : zb3 (wr.alloc (.cells #[.string ⟨x.lo.toArray⟩, .int .i64 x.lk, .string ⟨x.hi.toArray⟩, .int .i64 x.hk] 87)) wr.heap.size 0 x := by
        exact z1i
       have HX4 := zvq hx4
       clear hbA hx4
       go_wp2_with fail
       generalize wr.alloc (.cells #[.string ⟨x.lo.toArray⟩, .int .i64 x.lk, .string ⟨x.hi.toArray⟩, .int .i64 x.hk] 87) = W1 at *
       obtain ⟨f0, f1, f2, f3⟩ := HX4.out
       rw [Nat.zero_add] at f1 f2 f3
       clear h0 h1 h2 h3 d0 d1
       obtain ⟨z, hz⟩ : ∃ z, z = V.ecmp n (V.eLow x) (V.kw x) := ⟨_, rfl⟩
       have HIN : Hid (V.yw n x = decide (z < 0)) := zvq (by rw [hz]; exact (V.zrm HBK.out).symm)
       have hc1 := ug n (V.eLow x) (V.kw x)
       rw [← hz] at hc1
       have HC1 := zvq hc1
       clear hz hc1
       have HOK0 : Hid (V.okAt n l k = (decide (z < 0) && (decide (k = 0) || V.vp n (l.getD (k - 1) V.noI) x))) := zvq (by unfold V.okAt; rw [HG.out, HIN.out])
       by_cases hz0 : 0 ≤ z
       ·have HNO : Hid (V.ordB n l = false) := zvq (zhc hlt (by rw [HOK0.out, decide_eq_false (show ¬ z < 0 by omega)]; rfl))
        have hd : decide (0 ≤ z) = true := decide_eq_true hz0
        clear hz0
        refine wp_region_held_drew (S := (fun W' => zg W' /\ W'.cell? ⟨w.heap.size, 0, none⟩ = some (.int .i64 n) /\ W'.cell? ⟨w.heap.size, 1, none⟩ = some (.slice (some ⟨b, off, none⟩) l.length vc) /\ W'.cell? ⟨wr.heap.size, 0, none⟩ = some (.string ⟨x.lo.toArray⟩) /\ W'.cell? ⟨wr.heap.size, 1, none⟩ = some (.int .i64 x.lk) /\ W'.cell? ⟨wr.heap.size, 2, none⟩ = some (.string ⟨x.hi.toArray⟩) /\ W'.cell? ⟨wr.heap.size, 3, none⟩ = some (.int .i64 x.hk))) (by kernel_rfl) (by (try dsimp only); (try simp only [World.cell?_drew]); exact ⟨HM1.out.below (zvt _ _).drew, e0, e1, f0, f1, f2, f3⟩) (fun hHeld => ?_)
        refine tk 0 ?_
        refine tk 1 ?_
        refine tk 2 ?_
        refine tk 4 ?_
        refine rd 3 fun K hK => ?_
        go_simp
        refine (ws x _).mono ?_
        rintro e wc3 ⟨rfl, hbc3⟩
        try dsimp only
        refine hK.out _ _ ?_ (fun hHeld => ?_)
        ·exact z0q
        clear hK K
        try simp only [zvl, zvm, zvn, Act.put, zvo, List.set_cons_succ, List.set_cons_zero]
        refine rd 5 fun K hK => ?_
        go_simp
        refine (zab x _).mono ?_
        rintro e wc5 ⟨rfl, hbc5⟩
        try dsimp only
        refine hK.out _ _ ?_ (fun hHeld => ?_)
        ·exact z0p
        clear hK K
        try simp only [zvl, zvm, zvn, Act.put, zvo, List.set_cons_succ, List.set_cons_zero]
        refine rd 6 fun K hK => ?_
        go_simp
        refine (HC1.out _ (by first | assumption | exact And.left (by assumption)) HSC.out (V.za4 HBK.out) (V.zbi HBK.out)).mono ?_
        rintro e wc6 ⟨rfl, hbc6⟩
        try dsimp only
        refine hK.out _ _ ?_ (fun hHeld => ?_)
        ·exact z0o
        clear hK K
        try simp only [zvl, zvm, zvn, Act.put, zvo, List.set_cons_succ, List.set_cons_zero]
        refine tk 7 ?_
        refine tk 8 ?_
        refine tu 9 ?_
        refine tu 10 ?_
        refine tu 11 ?_
        refine tu 12 ?_
        refine tu 13 ?_
        refine tu 14 ?_
        refine tu 15 ?_
        refine tu 16 ?_
        refine tu 17 ?_
        refine tu 18 ?_
        refine tu 19 ?_
        refine tu 20 ?_
        refine tu 21 ?_
        refine tu 22 ?_
        refine tu 23 ?_
        refine tu 24 ?_
        refine tu 25 ?_
        refine tk 26 ?_
        refine wpAnyH_done (by kernel_rfl) ?_ _
        have hbz1 : Below W1.heap.size W1 wc6 := ((((zvt W1.heap.size W1).drew).trans (show Below W1.heap.size W1.drew wc3 from hbc3)).trans (hbc5.mono (show W1.heap.size ≤ wc3.heap.size from hbc3.size))).trans (hbc6.mono (Nat.le_trans (show W1.heap.size ≤ wc3.heap.size from hbc3.size) hbc5.size))
        have HBZ := zvr HBA hbz1
        clear hbz1
        clear hbc3 hbc5 hbc6 hHeld
        go_wp2
        go_ret
        exact ⟨zc (by rw [HF3.out, HNO.out]), HBZ.out⟩
       ·have hd : decide (0 ≤ z) = false := decide_eq_false hz0
        have HOK1 : Hid (V.okAt n l k = (decide (k = 0) || V.vp n (l.getD (k - 1) V.noI) x)) := zvq (by rw [HOK0.out, decide_eq_true (show z < 0 by omega)]; rfl)
        clear hz0
        by_cases hk0 : k = 0
        ·have HOK : Hid (∀ i, i < k + 1 -> V.okAt n l i = true) := zvq (zel HZ.out (by rw [HOK1.out, decide_eq_true hk0]; rfl))
         have hkd : decide ((0 : Int) < (k : Int)) = false := decide_eq_false (by omega)
         have hkn : decide (0 < k) = false := decide_eq_false (by omega)
         clear hk0
         refine wp_region_held_drew (S := (fun W' => zg W' /\ W'.cell? ⟨w.heap.size, 0, none⟩ = some (.int .i64 n) /\ W'.cell? ⟨w.heap.size, 1, none⟩ = some (.slice (some ⟨b, off, none⟩) l.length vc) /\ W'.cell? ⟨wr.heap.size, 0, none⟩ = some (.string ⟨x.lo.toArray⟩) /\ W'.cell? ⟨wr.heap.size, 1, none⟩ = some (.int .i64 x.lk) /\ W'.cell? ⟨wr.heap.size, 2, none⟩ = some (.string ⟨x.hi.toArray⟩) /\ W'.cell? ⟨wr.heap.size, 3, none⟩ = some (.int .i64 x.hk))) (by kernel_rfl) (by (try dsimp only); (try simp only [World.cell?_drew]); exact ⟨HM1.out.below (zvt _ _).drew, e0, e1, f0, f1, f2, f3⟩) (fun hHeld => ?_)
         refine tk 0 ?_
         refine tk 1 ?_
         refine tk 2 ?_
         refine tk 4 ?_
         refine rd 3 fun K hK => ?_
         go_simp
         refine (ws x _).mono ?_
         rintro e wc3 ⟨rfl, hbc3⟩
         try dsimp only
         refine hK.out _ _ ?_ (fun hHeld => ?_)
         ·exact z0q
         clear hK K
         try simp only [zvl, zvm, zvn, Act.put, zvo, List.set_cons_succ, List.set_cons_zero]
         refine rd 5 fun K hK => ?_
         go_simp
         refine (zab x _).mono ?_
         rintro e wc5 ⟨rfl, hbc5⟩
         try dsimp only
         refine hK.out _ _ ?_ (fun hHeld => ?_)
         ·exact z0p
         clear hK K
         try simp only [zvl, zvm, zvn, Act.put, zvo, List.set_cons_succ, List.set_cons_zero]
         refine rd 6 fun K hK => ?_
         go_simp
         refine (HC1.out _ (by first | assumption | exact And.left (by assumption)) HSC.out (V.za4 HBK.out) (V.zbi HBK.out)).mono ?_
         rintro e wc6 ⟨rfl, hbc6⟩
         try dsimp only
         refine hK.out _ _ ?_ (fun hHeld => ?_)
         ·exact z0o
         clear hK K
         try simp only [zvl, zvm, zvn, Act.put, zvo, List.set_cons_succ, List.set_cons_zero]
         refine tk 7 ?_
         refine tk 8 ?_
         refine tk 9 ?_
         refine tk 10 ?_
         refine tk 11 ?_
         refine tu 12 ?_
         refine tu 13 ?_
         refine tu 14 ?_
         refine tu 15 ?_
         refine tu 16 ?_
         refine tu 17 ?_
         refine tu 18 ?_
         refine tu 19 ?_
         refine tu 20 ?_
         refine tu 21 ?_
         refine tu 22 ?_
         refine tu 23 ?_
         refine tu 24 ?_
         refine tk 25 ?_
         refine tk 26 ?_
         refine wpAnyH_done (by kernel_rfl) ?_ _
         have hbz1 : Below W1.heap.size W1 wc6 := ((((zvt W1.heap.size W1).drew).trans (show Below W1.heap.size W1.drew wc3 from hbc3)).trans (hbc5.mono (show W1.heap.size ≤ wc3.heap.size from hbc3.size))).trans (hbc6.mono (Nat.le_trans (show W1.heap.size ≤ wc3.heap.size from hbc3.size) hbc5.size))
         have HBZ := zvr HBAW hbz1
         clear hbz1
         clear hbc3 hbc5 hbc6 hHeld
         exact zza
        ·have hkd : decide ((0 : Int) < (k : Int)) = true := decide_eq_true (by omega)
         have hkp : 0 < k := by omega
         have hkn : decide (0 < k) = true := decide_eq_true (by omega)
         have hi3 : (1 : Int) ≤ (k : Int) := by omega
         have hi4 : (k : Int) - 1 < (l.length : Int) := by omega
         have hi5 : (0 : Int) ≤ (k : Int) - 1 := by omega
         have hi6 : IntKind.i64.wrap ((k : Int) - 1) = (k : Int) - 1 := by rw [IntKind.wrap_i64]; omega
         have hi7 : ((k : Int) - 1).toNat = k - 1 := by omega
         have hk1 : k - 1 < l.length := by omega
         obtain ⟨b', off', eb, hb1, hy⟩ := HV.out.at (k - 1) hk1
         cases eb
         obtain ⟨y0, y1, y2, y3⟩ := hy.below hb1 HBA.out
         have HBY : Hid (V.zj n l[k - 1] = true) := zvq (HALL.out _ (List.getElem_mem hk1))
         have HGY := zvq (zjg hk1)
         generalize l[k - 1] = y at *
         obtain ⟨z2, hz2⟩ : ∃ z, z = V.ecmp n (V.kw y) (V.eLow x) := ⟨_, rfl⟩
         have HOK2 : Hid (V.okAt n l k = decide (z2 < 0)) := zvq (by rw [HOK1.out, decide_eq_false hk0, HGY.out, hz2]; exact (V.zus HBY.out HBK.out).symm)
         have hc2 := ug n (V.kw y) (V.eLow x)
         rw [← hz2] at hc2
         have HC2 := zvq hc2
         clear hz2 hc2 hy hk0 hb1
         refine wp_region_held_drew (S := (fun W' => zg W' /\ W'.cell? ⟨w.heap.size, 0, none⟩ = some (.int .i64 n) /\ W'.cell? ⟨w.heap.size, 1, none⟩ = some (.slice (some ⟨b, off, none⟩) l.length vc) /\ W'.cell? ⟨wr.heap.size, 0, none⟩ = some (.string ⟨x.lo.toArray⟩) /\ W'.cell? ⟨wr.heap.size, 1, none⟩ = some (.int .i64 x.lk) /\ W'.cell? ⟨wr.heap.size, 2, none⟩ = some (.string ⟨x.hi.toArray⟩) /\ W'.cell? ⟨wr.heap.size, 3, none⟩ = some (.int .i64 x.hk) /\ W'.cell? ⟨b, off + (k - 1) * 4, none⟩ = some (.string ⟨y.lo.toArray⟩) /\ W'.cell? ⟨b, off + (k - 1) * 4 + 1, none⟩ = some (.int .i64 y.lk) /\ W'.cell? ⟨b, off + (k - 1) * 4 + 2, none⟩ = some (.string ⟨y.hi.toArray⟩) /\ W'.cell? ⟨b, off + (k - 1) * 4 + 3, none⟩ = some (.int .i64 y.hk))) (by kernel_rfl) (by (try dsimp only); (try simp only [World.cell?_drew]); exact ⟨HM1.out.below (zvt _ _).drew, e0, e1, f0, f1, f2, f3, y0, y1, y2, y3⟩) (fun hHeld => ?_)
         refine tk 0 ?_
         refine tk 1 ?_
         refine tk 2 ?_
         refine tk 4 ?_
         refine rd 3 fun K hK => ?_
         go_simp
         refine (ws x _).mono ?_
         rintro e wc3 ⟨rfl, hbc3⟩
         try dsimp only
         refine hK.out _ _ ?_ (fun hHeld => ?_)
         ·(try dsimp only); go_split_ands; exact ⟨zg.below (by assumption) hbc3, zvw hbc3, zvw hbc3, zvw hbc3, zvw hbc3, zvw hbc3, zvw hbc3, zvw hbc3, zvw hbc3, zvw hbc3, zvw hbc3⟩
         clear hK K
         try simp only [zvl, zvm, zvn, Act.put, zvo, List.set_cons_succ, List.set_cons_zero]
         refine rd 5 fun K hK => ?_
         go_simp
         refine (zab x _).mono ?_
         rintro e wc5 ⟨rfl, hbc5⟩
         try dsimp only
         refine hK.out _ _ ?_ (fun hHeld => ?_)
         ·(try dsimp only); go_split_ands; exact ⟨zg.below (by assumption) hbc5, zvw hbc5, zvw hbc5, zvw hbc5, zvw hbc5, zvw hbc5, zvw hbc5, zvw hbc5, zvw hbc5, zvw hbc5, zvw hbc5⟩
         clear hK K
         try simp only [zvl, zvm, zvn, Act.put, zvo, List.set_cons_succ, List.set_cons_zero]
         refine rd 6 fun K hK => ?_
         go_simp
         refine (HC1.out _ (by first | assumption | exact And.left (by assumption)) HSC.out (V.za4 HBK.out) (V.zbi HBK.out)).mono ?_
         rintro e wc6 ⟨rfl, hbc6⟩
         try dsimp only
         refine hK.out _ _ ?_ (fun hHeld => ?_)
         ·(try dsimp only); go_split_ands; exact ⟨zg.below (by assumption) hbc6, zvw hbc6, zvw hbc6, zvw hbc6, zvw hbc6, zvw hbc6, zvw hbc6, zvw hbc6, zvw hbc6, zvw hbc6, zvw hbc6⟩
         clear hK K
         try simp only [zvl, zvm, zvn, Act.put, zvo, List.set_cons_succ, List.set_cons_zero]
         refine tk 7 ?_
         refine tk 8 ?_
         refine tk 9 ?_
         refine tk 10 ?_
         refine tk 11 ?_
         refine tk 12 ?_
         refine tk 13 ?_
         refine tk 14 ?_
         refine tk 15 ?_
         refine tk 16 ?_
         refine tk 17 ?_
         refine tk 18 ?_
         refine tk 19 ?_
         refine tk 21 ?_
         refine rd 20 fun K hK => ?_
         go_simp
         refine (zab y _).mono ?_
         rintro e wc20 ⟨rfl, hbc20⟩
         try dsimp only
         refine hK.out _ _ ?_ (fun hHeld => ?_)
         ·(try dsimp only); go_split_ands; exact ⟨zg.below (by assumption) hbc20, zvw hbc20, zvw hbc20, zvw hbc20, zvw hbc20, zvw hbc20, zvw hbc20, zvw hbc20, zvw hbc20, zvw hbc20, zvw hbc20⟩
         clear hK K
         try simp only [zvl, zvm, zvn, Act.put, zvo, List.set_cons_succ, List.set_cons_zero]
         refine rd 22 fun K hK => ?_
         go_simp
         refine (ws x _).mono ?_
         rintro e wc22 ⟨rfl, hbc22⟩
         try dsimp only
         refine hK.out _ _ ?_ (fun hHeld => ?_)
         ·exact zzk
         clear hK K
         try simp only [zvl, zvm, zvn, Act.put, zvo, List.set_cons_succ, List.set_cons_zero]
         refine rd 23 fun K hK => ?_
         go_simp
         refine (HC2.out _ (by first | assumption | exact And.left (by assumption)) HSC.out (V.zbi HBY.out) (V.za4 HBK.out)).mono ?_
         rintro e wc23 ⟨rfl, hbc23⟩
         try dsimp only
         refine hK.out _ _ ?_ (fun hHeld => ?_)
         ·exact zzj
         clear hK K
         try simp only [zvl, zvm, zvn, Act.put, zvo, List.set_cons_succ, List.set_cons_zero]
         refine tk 24 ?_
         refine tk 25 ?_
         refine tk 26 ?_
         refine wpAnyH_done (by kernel_rfl) ?_ _
         have hbz1 : Below W1.heap.size W1 wc6 := ((((zvt W1.heap.size W1).drew).trans (show Below W1.heap.size W1.drew wc3 from hbc3)).trans (hbc5.mono (show W1.heap.size ≤ wc3.heap.size from hbc3.size))).trans (hbc6.mono (Nat.le_trans (show W1.heap.size ≤ wc3.heap.size from hbc3.size) hbc5.size))
         have hbz2 : Below wc6.heap.size wc6 wc23 := (hbc20.trans (hbc22.mono hbc20.size)).trans (hbc23.mono (Nat.le_trans hbc20.size hbc22.size))
         have HBZ := zvq (HBAW.out.trans ((hbz1.trans (hbz2.mono hbz1.size)).mono HBAW.out.size))
         have HBZ0 := zvq (HBA.out.trans ((hbz1.trans (hbz2.mono hbz1.size)).mono HBA.out.size))
         clear hbc3 hbc5 hbc6 hbc20 hbc22 hbc23 hHeld hbz1 hbz2
         by_cases hz2 : 0 ≤ z2
         ·have HNO : Hid (V.ordB n l = false) := zvq (zhc hlt (by rw [HOK2.out]; exact decide_eq_false (by omega)))
          go_wp2
          go_ret
          exact ⟨zc (by rw [HF3.out, HNO.out]), HBZ0.out⟩
         ·have HOK : Hid (∀ i, i < k + 1 -> V.okAt n l i = true) := zvq (zel HZ.out (by rw [HOK2.out]; exact decide_eq_true (by omega)))
          exact zza
      ·obtain rfl : k = l.length := by omega
       have HR : Hid (V.okR n l = true) := zvq (by rw [HF3.out]; exact (V.zcg n l).2 HZ.out)
       go_wp2
       go_ret
       exact ⟨zc HR.out.symm, HBG.out⟩
end Go.Proofs.YtiloljoancdcbaaGreatDoor

/-
  Lemmas for the law.
-/
import Derived.Test.YtbikeahmldobkaaGreatDoorC42x20
import Derived.Test.YtbikeahmldobkaaGreatDoorC42x02
import Derived.Deep.RegionHeld3
set_option linter.all false
set_option maxRecDepth 100000
set_option maxHeartbeats 3200000
namespace Go.Proofs.YtbikeahmldobkaaGreatDoor
open Go.RowKit
def setV (n : Int) (v : Value) : Value := .agg #[.int .i64 n, v]
def Lens (l : List V.Itv) : Prop := ∀ x ∈ l, x.lo.length ≤ maxLen /\ x.hi.length ≤ maxLen
theorem zop {n : Int} {l : List V.Itv} {k : Nat} (h : (l.take k).all (V.zr n) = true) (hk : k < l.length) (hb : V.zr n l[k] = true) : (l.take (k + 1)).all (V.zr n) = true := by
 rw [List.take_succ_eq_append_getElem hk, List.all_append, h]
 simpa using hb
theorem bnd_no {n : Int} {l : List V.Itv} {k : Nat} (hk : k < l.length) (hb : V.zr n l[k] = false) : l.all (V.zr n) = false := by
 rw [List.all_eq_false]
 exact ⟨l[k], List.getElem_mem hk, by rw [hb]; decide⟩
theorem zwt {P : Prop} (h : P := by
 rintro e W3 ⟨rfl, hb3⟩
 have HB3 := zv3 HB2 hb3
 clear hb3 k0 k2 k3
 rcases hhi : V.jm n x.hi x.hk with _ | _
 ·have HR : Hid (V.okR n l = false) := zv2 (by rw [HF2.out, HNO.out (by rw [HBD.out, HLO.out, hhi]; rfl)]; rfl)
  clear hhi
  go_wp2
  go_ret
  exact ⟨zf HR.out.symm, HB0.out.trans (HB3.out.mono HB0.out.size)⟩
 ·have HY : Hid ((l.take (k + 1)).all (V.zr n) = true) := zv2 (HYES.out (by rw [HBD.out, HLO.out, hhi]; rfl))
  clear hhi
  go_wp2
  go_roundw
  case rel => exact ⟨k + 1, by omega, by go_num, HY.out, HB3.out⟩
  case measure => simp [intOf]; omega) : P := h
theorem zxd {P : Prop} (h : P := by
 go_enter Tryz.func111, Tryz.ntmps111
 go_wp2_with fail
 generalize w.alloc (.cells #[.int .i64 n, .slice va l.length vc] 68) = w0 at *
 refine (zcl n w0).mono ?_
 rintro e w' ⟨rfl, rfl⟩
 rw [HSC.out]
 go_wp2
 go_ret
 exact ⟨zf HR.out.symm, HB0.out⟩) : P := h
theorem zx8 {P : Prop} (h : P := by
 have HR : Hid (V.okR n l = false) := zv2 (by rw [HF2.out, HNO.out (by rw [HBD.out, hlo]; rfl)]; rfl)
 clear hlo
 go_wp2
 go_ret
 exact ⟨zf HR.out.symm, HB0.out.trans (HB2.out.mono HB0.out.size)⟩) : P := h
theorem zhg (n : Int) (v : Value) (l : List V.Itv) (w : World) (hm : zk w) (hv : Itvs w v l) (hs : Lens l) (hl : l.length ≤ maxLen) :
  Calls Tryz.prog 111 #[setV n v] w fun e w' => e = .returned (.bool (V.okR n l)) /\ Below w.heap.size w w' := by
 have HV := zv2 hv
 obtain ⟨va, vc, rfl⟩ := hv.slice
 unfold maxLen at hl
 have HS := zv2 hs
 have HF : Hid (V.okR n l = (V.scheme n && (decide (l.length ≤ 32) && (l.all (V.zr n) && V.ordB n l)))) := zv2 rfl
 have g1 : Below w.heap.size w (w.alloc (.cells #[.int .i64 n, .slice va l.length vc] 68)) := (zv5 _ w).alloc (zv4 _) _
 have HB0 := zv2 g1
 have HM := zv2 (hm.below g1)
 have c0 : (w.alloc (.cells #[.int .i64 n, .slice va l.length vc] 68)).cell? ⟨w.heap.size, 0, none⟩ = some (.int .i64 n) := by simp [zh]
 have c1 : (w.alloc (.cells #[.int .i64 n, .slice va l.length vc] 68)).cell? ⟨w.heap.size, 1, none⟩ = some (.slice va l.length vc) := by simp [zh]
 clear hv hs g1 hm
 unfold setV
 rcases g0 : V.scheme n with _ | _
 ·have HR : Hid (V.okR n l = false) := zv2 (by rw [HF.out, g0]; rfl)
  have HSC := zv2 g0
  clear g0
  exact zxd
 ·have HSC := zv2 g0
  clear g0
  by_cases h32 : 32 < l.length
  ·have HR : Hid (V.okR n l = false) := zv2 (by rw [HF.out, decide_eq_false (show ¬ l.length ≤ 32 by omega), Bool.false_and, Bool.and_false])
   exact zxd
  ·have g8 : l.length ≤ 32 := by omega
   have HF2 : Hid (V.okR n l = (l.all (V.zr n) && V.ordB n l)) := zv2 (by rw [HF.out, HSC.out, decide_eq_true g8]; rfl)
   have g5 : w.heap.size < (w.alloc (.cells #[.int .i64 n, .slice va l.length vc] 68)).heap.size := by simp
   go_enter Tryz.func111, Tryz.ntmps111
   go_wp2_with fail
   generalize w.alloc (.cells #[.int .i64 n, .slice va l.length vc] 68) = w0 at *
   refine (zcl n w0).mono ?_
   rintro e w' ⟨rfl, rfl⟩
   rw [HSC.out]
   go_wp2
   go_loopw [18] (fun iv wx => ∃ k : Nat, k ≤ l.length /\ iv = .int .i64 k /\ (l.take k).all (V.zr n) = true /\ Below w'.heap.size w' wx) (fun iv _ => l.length - (intOf iv).toNat)
   case atStart => exact ⟨0, Nat.zero_le _, rfl, rfl, zv5 _ _⟩
   case round =>
    obtain ⟨k, hk, rfl, hz, g2⟩ := hrel
    have HZ := zv2 hz
    have HBX := zv2 g2
    have HBF := zv3 HB0 g2
    have d0 := (g2.cell (p := ⟨w.heap.size, 0, none⟩) g5).trans c0
    have d1 := (g2.cell (p := ⟨w.heap.size, 1, none⟩) g5).trans c1
    clear hz g2
    by_cases hlt : k < l.length
    ·obtain ⟨b, off, rfl, g1, hx⟩ := HV.out.at k hlt
     obtain ⟨h0, h1, h2, h3⟩ := hx.below g1 HBF.out
     have h6 : (0 : Int) ≤ (k : Int) := by omega
     have h7 : (k : Int) < (l.length : Int) := by omega
     have g3 := HS.out _ (List.getElem_mem hlt)
     have HBD : Hid (V.zr n l[k] = (V.jm n l[k].lo l[k].lk && V.jm n l[k].hi l[k].hk)) := zv2 rfl
     have HYES := zv2 (fun hb => zop (n := n) HZ.out hlt hb)
     have HNO := zv2 (fun hb => bnd_no (n := n) hlt hb)
     clear hx
     generalize l[k] = x at *
     have hbA : Below wr.heap.size wr (wr.alloc (.cells #[.string ⟨x.lo.toArray⟩, .int .i64 x.lk, .string ⟨x.hi.toArray⟩, .int .i64 x.hk] 83)) := (zv5 _ wr).alloc (zv4 _) _
     have g6 := zv2 ((HM.out.below HBX.out).below hbA)
     have g9 := zv3 HBX hbA
     have e0 := ze hbA d0
     have g7 : zbz (wr.alloc (.cells #[.string ⟨x.lo.toArray⟩, .int .i64 x.lk, .string ⟨x.hi.toArray⟩, .int .i64 x.hk] 83)) wr.heap.size 0 x := by
      exact zz6
     have h4 := zv2 g7
     clear hbA g7
     go_wp2_with fail
     generalize wr.alloc (.cells #[.string ⟨x.lo.toArray⟩, .int .i64 x.lk, .string ⟨x.hi.toArray⟩, .int .i64 x.hk] 83) = W1 at *
     obtain ⟨f0, f1, f2, f3⟩ := h4.out
     rw [Nat.zero_add] at f1 f2 f3
     clear h0 h1 h2 h3 d0 d1
     refine (zg3 n x.lo x.lk W1 g6.out g3.1).mono ?_
     rintro e W2 ⟨rfl, hb2⟩
     have k0 := ze hb2 e0
     have k2 := ze hb2 f2
     have k3 := ze hb2 f3
     have HB2 := zv3 g9 hb2
     have h5 := zv2 (g6.out.below hb2)
     clear hb2 e0 f0 f1 f2 f3
     rcases hlo : V.jm n x.lo x.lk with _ | _
     ·exact zx8
     ·have HLO := zv2 hlo
      clear hlo
      go_wp2_with fail
      refine (zg3 n x.hi x.hk W2 h5.out g3.2).mono ?_
      exact zwt
    ·obtain rfl : k = l.length := by omega
     have g4 : Hid (l.all (V.zr n) = true) := zv2 (by have := HZ.out; rwa [List.take_length] at this)
     go_wp2_with fail
     refine (zk4 n _ l wr (HM.out.below HBX.out) HSC.out (HV.out.below HBF.out) (fun x hx => List.all_eq_true.1 g4.out x hx) (by omega)).mono ?_
     rintro e W3 ⟨rfl, hb3⟩
     have HB3 := zv3 HBF hb3
     have HR : Hid (V.okR n l = V.ordB n l) := zv2 (by rw [HF2.out, g4.out]; rfl)
     clear hb3
     go_wp2
     go_ret
     exact ⟨zf HR.out.symm, HB3.out⟩
section
variable {P : Program} {ops : Array Oper} {Q : Exit -> Act -> World -> Prop} {md : Region.Mode} {S : World -> Prop}
theorem tk (i : Nat) {oi : Oper} {v : Value} {fuel : Nat} {l l' : Array Bool} {a a' : Act} {w : World}
  (h : wpAnyH P md ops Q S fuel l' a' w)
  (hi : ops[i]? = some oi := by rfl) (hs : Region.noSelect ops = true := by kernel_rfl) (hf : Region.free md ops l i = true := by kernel_rfl)
  (hr : (Region.ready md ops l).contains i = true := by kernel_rfl)
  (hQ : ∀ c a w, Q (.panic c) (a.put oi.dst v) w -> Q (.panic c) a w := by exact fun _ _ _ h => h)
  (hw : Region.wanted oi (yielded ops a.tmps) = true := by rfl)
  (hy : ∀ w, S w -> (execOp a.eval oi).run P w = .ok (.value v) w := by intro w' hSw; (try dsimp only at hSw); go_simp; try with_reducible rfl)
  (hS : S w := by assumption)
  (hl : l.setIfInBounds i true = l' := by (try simp only [zv0, List.set_cons_succ, List.set_cons_zero]); exact rfl)
  (ha : a.put oi.dst v = a' := by (try simp only [zvx, zvy, zvz, Act.put, zv0, List.set_cons_succ, List.set_cons_zero]); exact rfl) :
  wpAnyH P md ops Q S (fuel + 1) l a w := by
 subst hl ha
 exact wpAnyH_take hi hs hf hr hQ (Or.inl ⟨hw, hy⟩) hS h
theorem tu (i : Nat) {oi : Oper} {fuel : Nat} {l l' : Array Bool} {a a' : Act} {w : World}
  (h : wpAnyH P md ops Q S fuel l' a' w)
  (hi : ops[i]? = some oi := by rfl) (hs : Region.noSelect ops = true := by kernel_rfl) (hf : Region.free md ops l i = true := by kernel_rfl)
  (hr : (Region.ready md ops l).contains i = true := by kernel_rfl)
  (hQ : ∀ c a w, Q (.panic c) (a.put oi.dst undef) w -> Q (.panic c) a w := by exact fun _ _ _ h => h)
  (hw : Region.wanted oi (yielded ops a.tmps) = false := by rfl)
  (hS : S w := by assumption)
  (hl : l.setIfInBounds i true = l' := by (try simp only [zv0, List.set_cons_succ, List.set_cons_zero]); exact rfl)
  (ha : a.put oi.dst undef = a' := by (try simp only [zvx, zvy, zvz, Act.put, zv0, List.set_cons_succ, List.set_cons_zero]); exact rfl) :
  wpAnyH P md ops Q S (fuel + 1) l a w := by
 subst hl ha
 exact wpAnyH_take hi hs hf hr hQ (Or.inr ⟨hw, rfl⟩) hS h
theorem rd (i : Nat) {o : Oper} {fuel : Nat} {l : Array Bool} {a : Act} {w : World}
  (h : ∀ K' : Act -> World -> Prop, Shut (∀ a w, S w -> (S w -> wpAnyH P md ops Q S fuel (l.setIfInBounds i true) a w) -> K' a w) -> if Region.wanted o (yielded ops a.tmps) = true then Oper.wp P o a w K' Q else K' (a.put o.dst undef) w)
  (hi : ops[i]? = some o := by exact rfl) (hr : Region.ready md ops l = [i] := by kernel_rfl) :
  wpAnyH P md ops Q S (fuel + 1) l a w :=
 wpAnyH_ready hr (by simp) (AllReadyH.cons hi h AllReadyH.nil)
theorem nx {i : Nat} {fuel : Nat} {l l' : Array Bool} {a a' : Act} {w : World}
  (h : wpAnyH P md ops Q S fuel l' a' w)
  (hl : l.setIfInBounds i true = l' := by (try simp only [zv0, List.set_cons_succ, List.set_cons_zero]); exact rfl)
  (ha : a = a' := by (try simp only [zvx, zvy, zvz, Act.put, zv0, List.set_cons_succ, List.set_cons_zero]); exact rfl) :
  wpAnyH P md ops Q S fuel (l.setIfInBounds i true) a w := by
 subst hl ha
 exact h
theorem tv (i : Nat) {oi : Oper} (v : Value) {fuel : Nat} {l l' : Array Bool} {a a' : Act} {w : World}
  (hy : ∀ w, S w -> (execOp a.eval oi).run P w = .ok (.value v) w)
  (h : wpAnyH P md ops Q S fuel l' a' w)
  (hi : ops[i]? = some oi := by exact rfl) (hs : Region.noSelect ops = true := by kernel_rfl) (hf : Region.free md ops l i = true := by kernel_rfl)
  (hr : (Region.ready md ops l).contains i = true := by kernel_rfl)
  (hQ : ∀ c a w, Q (.panic c) (a.put oi.dst v) w -> Q (.panic c) a w := by exact fun _ _ _ h => h)
  (hw : Region.wanted oi (yielded ops a.tmps) = true := by rfl)
  (hS : S w := by assumption)
  (hl : l.setIfInBounds i true = l' := by (try simp only [zv0, List.set_cons_succ, List.set_cons_zero]); exact rfl)
  (ha : a.put oi.dst v = a' := by (try simp only [zvx, zvy, zvz, Act.put, zv0, List.set_cons_succ, List.set_cons_zero]); exact rfl) :
  wpAnyH P md ops Q S (fuel + 1) l a w := by
 subst hl ha
 exact wpAnyH_take hi hs hf hr hQ (Or.inl ⟨hw, hy⟩) hS h
end
open Go.RowKit
theorem zxb {P : Prop} (h : P := by
 go_enter Tryz.func96, Tryz.ntmps96
 go_wp2_with fail
 generalize w.alloc (.cells #[.int .i64 n, .slice va l.length vc] 68) = w0 at *
 refine (zbp n w0).mono ?_
 rintro e w' ⟨rfl, rfl⟩
 rw [HSC.out]
 go_wp2
 go_ret
 exact ⟨zf HR.out.symm, HB0.out⟩) : P := h
theorem zyb {P : Prop} (h : P := by
 (try dsimp only); go_split_ands; exact ⟨zk.below (by assumption) hbc23, zv8 hbc23, zv8 hbc23, zv8 hbc23, zv8 hbc23, zv8 hbc23, zv8 hbc23, zv8 hbc23, zv8 hbc23, zv8 hbc23, zv8 hbc23⟩) : P := h
theorem zyc {P : Prop} (h : P := by
 (try dsimp only); go_split_ands; exact ⟨zk.below (by assumption) hbc22, zv8 hbc22, zv8 hbc22, zv8 hbc22, zv8 hbc22, zv8 hbc22, zv8 hbc22, zv8 hbc22, zv8 hbc22, zv8 hbc22, zv8 hbc22⟩) : P := h
theorem zza {P : Prop} (h : P := by
 (try dsimp only); go_split_ands; exact ⟨zk.below (by assumption) hbc6, zv8 hbc6, zv8 hbc6, zv8 hbc6, zv8 hbc6, zv8 hbc6, zv8 hbc6⟩) : P := h
theorem zzb {P : Prop} (h : P := by
 (try dsimp only); go_split_ands; exact ⟨zk.below (by assumption) hbc5, zv8 hbc5, zv8 hbc5, zv8 hbc5, zv8 hbc5, zv8 hbc5, zv8 hbc5⟩) : P := h
theorem zzc {P : Prop} (h : P := by
 (try dsimp only); go_split_ands; exact ⟨zk.below (by assumption) hbc3, zv8 hbc3, zv8 hbc3, zv8 hbc3, zv8 hbc3, zv8 hbc3, zv8 hbc3⟩) : P := h
theorem zbg (n : Int) (v : Value) (l : List V.Itv) (w : World) (hm : zk w) (hv : Itvs w v l) (hs : Lens l) (hl : l.length ≤ maxLen) :
  Calls Tryz.prog 96 #[setV n v] w fun e w' => e = .returned (.bool (V.okR n l)) /\ Below w.heap.size w w' := by
 have HV := zv2 hv
 obtain ⟨va, vc, rfl⟩ := hv.slice
 unfold maxLen at hl
 have HS := zv2 hs
 have HF : Hid (V.okR n l = (V.scheme n && (decide (l.length ≤ 32) && (l.all (V.zr n) && V.ordB n l)))) := zv2 rfl
 have g4 : Below w.heap.size w (w.alloc (.cells #[.int .i64 n, .slice va l.length vc] 68)) := (zv5 _ w).alloc (zv4 _) _
 have HB0 := zv2 g4
 have HM := zv2 (hm.below g4)
 have c0 : (w.alloc (.cells #[.int .i64 n, .slice va l.length vc] 68)).cell? ⟨w.heap.size, 0, none⟩ = some (.int .i64 n) := by simp [zh]
 have c1 : (w.alloc (.cells #[.int .i64 n, .slice va l.length vc] 68)).cell? ⟨w.heap.size, 1, none⟩ = some (.slice va l.length vc) := by simp [zh]
 clear hv hs g4 hm
 unfold setV
 rcases g5 : V.scheme n with _ | _
 ·have HR : Hid (V.okR n l = false) := zv2 (by rw [HF.out, g5]; rfl)
  have HSC := zv2 g5
  clear g5
  exact zxb
 ·have HSC := zv2 g5
  clear g5
  by_cases h32 : 32 < l.length
  ·have HR : Hid (V.okR n l = false) := zv2 (by rw [HF.out, decide_eq_false (show ¬ l.length ≤ 32 by omega), Bool.false_and, Bool.and_false])
   exact zxb
  ·have j7 : l.length ≤ 32 := by omega
   have HF2 : Hid (V.okR n l = (l.all (V.zr n) && V.ordB n l)) := zv2 (by rw [HF.out, HSC.out, decide_eq_true j7]; rfl)
   have g3 : w.heap.size < (w.alloc (.cells #[.int .i64 n, .slice va l.length vc] 68)).heap.size := by simp
   go_enter Tryz.func96, Tryz.ntmps96
   go_wp2_with fail
   generalize w.alloc (.cells #[.int .i64 n, .slice va l.length vc] 68) = w0 at *
   refine (zbp n w0).mono ?_
   rintro e w' ⟨rfl, rfl⟩
   rw [HSC.out]
   go_wp2
   go_loopw [3] (fun iv wx => ∃ k : Nat, k ≤ l.length /\ iv = .int .i64 k /\ (l.take k).all (V.zr n) = true /\ Below w0.heap.size w0 wx) (fun iv _ => l.length - (intOf iv).toNat)
   case atStart => exact ⟨0, Nat.zero_le _, rfl, rfl, zv5 _ _⟩
   case round =>
    obtain ⟨k, hk, rfl, hz, g2⟩ := hrel
    have HZ := zv2 hz
    have HBX := zv2 g2
    have HBF := zv3 HB0 g2
    have d0 := (g2.cell (p := ⟨w.heap.size, 0, none⟩) g3).trans c0
    have d1 := (g2.cell (p := ⟨w.heap.size, 1, none⟩) g3).trans c1
    clear hz g2
    by_cases hlt : k < l.length
    ·obtain ⟨b, off, rfl, g4, hx⟩ := HV.out.at k hlt
     obtain ⟨h0, h1, h2, h3⟩ := hx.below g4 HBF.out
     have j9 : (0 : Int) ≤ (k : Int) := by omega
     have k1 : (k : Int) < (l.length : Int) := by omega
     have h6 := HS.out _ (List.getElem_mem hlt)
     have HBD : Hid (V.zr n l[k] = (V.jm n l[k].lo l[k].lk && V.jm n l[k].hi l[k].hk)) := zv2 rfl
     have HYES := zv2 (fun hb => zop (n := n) HZ.out hlt hb)
     have HNO := zv2 (fun hb => bnd_no (n := n) hlt hb)
     clear hx
     generalize l[k] = x at *
     have hbA : Below wr.heap.size wr (wr.alloc (.cells #[.string ⟨x.lo.toArray⟩, .int .i64 x.lk, .string ⟨x.hi.toArray⟩, .int .i64 x.hk] 83)) := (zv5 _ wr).alloc (zv4 _) _
     have g6 := zv2 ((HM.out.below HBX.out).below hbA)
     have g7 := zv3 HBX hbA
     have e0 := ze hbA d0
     have g8 : zbz (wr.alloc (.cells #[.string ⟨x.lo.toArray⟩, .int .i64 x.lk, .string ⟨x.hi.toArray⟩, .int .i64 x.hk] 83)) wr.heap.size 0 x := by
      exact zz6
     have h8 := zv2 g8
     clear hbA g8
     go_wp2_with fail
     generalize wr.alloc (.cells #[.string ⟨x.lo.toArray⟩, .int .i64 x.lk, .string ⟨x.hi.toArray⟩, .int .i64 x.hk] 83) = W1 at *
     obtain ⟨f0, f1, f2, f3⟩ := h8.out
     rw [Nat.zero_add] at f1 f2 f3
     clear h0 h1 h2 h3 d0 d1
     refine (zhd n x.lo x.lk W1 g6.out h6.1).mono ?_
     rintro e W2 ⟨rfl, hb2⟩
     have k0 := ze hb2 e0
     have k2 := ze hb2 f2
     have k3 := ze hb2 f3
     have HB2 := zv3 g7 hb2
     have k4 := zv2 (g6.out.below hb2)
     clear hb2 e0 f0 f1 f2 f3
     rcases hlo : V.jm n x.lo x.lk with _ | _
     ·exact zx8
     ·have HLO := zv2 hlo
      clear hlo
      go_wp2_with fail
      refine (zhd n x.hi x.hk W2 k4.out h6.2).mono ?_
      exact zwt
    ·obtain rfl : k = l.length := by omega
     have g9 : Hid (∀ x ∈ l, V.zr n x = true) := zv2 (by have := HZ.out; rw [List.take_length] at this; exact List.all_eq_true.1 this)
     have HF3 : Hid (V.okR n l = V.ordB n l) := zv2 (by rw [HF2.out, List.all_eq_true.2 g9.out]; rfl)
     have k5 := zv2 (HM.out.below HBX.out)
     have j6 : w.heap.size < wr.heap.size := Nat.lt_of_lt_of_le g3 HBX.out.size
     have HD := zv2 (And.intro d0 d1)
     obtain ⟨wo, k6⟩ : ∃ wo : World, wo = wr := ⟨_, rfl⟩
     subst k6
     go_wp2
     clear d0 d1
     go_loopw [5] (fun iv wx => ∃ k : Nat, k ≤ l.length /\ iv = .int .i64 k /\ (∀ i, i < k -> V.okAt n l i = true) /\ Below wo.heap.size wo wx) (fun iv _ => l.length - (intOf iv).toNat)
     case atStart => exact ⟨0, Nat.zero_le _, rfl, fun i hi => by omega, zv5 _ _⟩
     case round =>
      obtain ⟨k, hk, rfl, hz, g2⟩ := hrel
      have HZ := zv2 hz
      have HBX := zv2 g2
      have h9 := zv3 HBF g2
      have d0 := (g2.cell (p := ⟨w.heap.size, 0, none⟩) j6).trans HD.out.1
      have d1 := (g2.cell (p := ⟨w.heap.size, 1, none⟩) j6).trans HD.out.2
      clear hz g2
      by_cases hlt : k < l.length
      ·obtain ⟨b, off, rfl, g4, hx⟩ := HV.out.at k hlt
       obtain ⟨h0, h1, h2, h3⟩ := hx.below g4 h9.out
       have j9 : (0 : Int) ≤ (k : Int) := by omega
       have k1 : (k : Int) < (l.length : Int) := by omega
       have HBK : Hid (V.zr n l[k] = true) := zv2 (g9.out _ (List.getElem_mem hlt))
       have HG := zv2 (zh9 hlt)
       clear hx
       generalize l[k] = x at *
       have hbA : Below wr.heap.size wr (wr.alloc (.cells #[.string ⟨x.lo.toArray⟩, .int .i64 x.lk, .string ⟨x.hi.toArray⟩, .int .i64 x.hk] 83)) := (zv5 _ wr).alloc (zv4 _) _
       have g6 := zv2 ((k5.out.below HBX.out).below hbA)
       have g7 := zv3 h9 hbA
       have h4 := zv3 HBX hbA
       have e0 := ze hbA d0
       have e1 := ze hbA d1
       have g8 : zbz (wr.alloc (.cells #[.string ⟨x.lo.toArray⟩, .int .i64 x.lk, .string ⟨x.hi.toArray⟩, .int .i64 x.hk] 83)) wr.heap.size 0 x := by
        exact zz6
       have h8 := zv2 g8
       clear hbA g8
       go_wp2_with fail
       generalize wr.alloc (.cells #[.string ⟨x.lo.toArray⟩, .int .i64 x.lk, .string ⟨x.hi.toArray⟩, .int .i64 x.hk] 83) = W1 at *
       obtain ⟨f0, f1, f2, f3⟩ := h8.out
       rw [Nat.zero_add] at f1 f2 f3
       clear h0 h1 h2 h3 d0 d1
       obtain ⟨z, hz⟩ : ∃ z, z = V.ecmp n (V.eLow x) (V.kr x) := ⟨_, rfl⟩
       have HIN : Hid (V.yh n x = decide (z < 0)) := zv2 (by rw [hz]; exact (V.zqp HBK.out).symm)
       have hc1 := yk n (V.eLow x) (V.kr x)
       rw [← hz] at hc1
       have j0 := zv2 hc1
       clear hz hc1
       have j1 : Hid (V.okAt n l k = (decide (z < 0) && (decide (k = 0) || V.zaz n (l.getD (k - 1) V.noI) x))) := zv2 (by unfold V.okAt; rw [HG.out, HIN.out])
       by_cases g3 : 0 ≤ z
       ·have HNO : Hid (V.ordB n l = false) := zv2 (zgj hlt (by rw [j1.out, decide_eq_false (show ¬ z < 0 by omega)]; rfl))
        have hd : decide (0 ≤ z) = true := decide_eq_true g3
        clear g3
        refine wp_region_held_drew (S := (fun W' => zk W' /\ W'.cell? ⟨w.heap.size, 0, none⟩ = some (.int .i64 n) /\ W'.cell? ⟨w.heap.size, 1, none⟩ = some (.slice (some ⟨b, off, none⟩) l.length vc) /\ W'.cell? ⟨wr.heap.size, 0, none⟩ = some (.string ⟨x.lo.toArray⟩) /\ W'.cell? ⟨wr.heap.size, 1, none⟩ = some (.int .i64 x.lk) /\ W'.cell? ⟨wr.heap.size, 2, none⟩ = some (.string ⟨x.hi.toArray⟩) /\ W'.cell? ⟨wr.heap.size, 3, none⟩ = some (.int .i64 x.hk))) (by kernel_rfl) (by (try dsimp only); (try simp only [World.cell?_drew]); exact ⟨g6.out.below (zv5 _ _).drew, e0, e1, f0, f1, f2, f3⟩) (fun hHeld => ?_)
        refine tk 0 ?_
        refine tk 1 ?_
        refine tk 2 ?_
        refine tk 4 ?_
        refine rd 3 fun K hK => ?_
        go_simp
        refine (vg x _).mono ?_
        rintro e wc3 ⟨rfl, hbc3⟩
        try dsimp only
        refine hK.out _ _ ?_ (fun hHeld => ?_)
        ·exact zzc
        clear hK K
        try simp only [zvx, zvy, zvz, Act.put, zv0, List.set_cons_succ, List.set_cons_zero]
        refine rd 5 fun K hK => ?_
        go_simp
        refine (vp x _).mono ?_
        rintro e wc5 ⟨rfl, hbc5⟩
        try dsimp only
        refine hK.out _ _ ?_ (fun hHeld => ?_)
        ·exact zzb
        clear hK K
        try simp only [zvx, zvy, zvz, Act.put, zv0, List.set_cons_succ, List.set_cons_zero]
        refine rd 6 fun K hK => ?_
        go_simp
        refine (j0.out _ (by first | assumption | exact And.left (by assumption)) HSC.out (V.zai HBK.out) (V.zav HBK.out)).mono ?_
        rintro e wc6 ⟨rfl, hbc6⟩
        try dsimp only
        refine hK.out _ _ ?_ (fun hHeld => ?_)
        ·exact zza
        clear hK K
        try simp only [zvx, zvy, zvz, Act.put, zv0, List.set_cons_succ, List.set_cons_zero]
        refine tk 7 ?_
        refine tk 8 ?_
        refine tu 9 ?_
        refine tu 10 ?_
        refine tu 11 ?_
        refine tu 12 ?_
        refine tu 13 ?_
        refine tu 14 ?_
        refine tu 15 ?_
        refine tu 16 ?_
        refine tu 17 ?_
        refine tu 18 ?_
        refine tu 19 ?_
        refine tu 20 ?_
        refine tu 21 ?_
        refine tu 22 ?_
        refine tu 23 ?_
        refine tu 24 ?_
        refine tu 25 ?_
        refine tk 26 ?_
        refine wpAnyH_done (by kernel_rfl) ?_ _
        have g1 : Below W1.heap.size W1 wc6 := ((((zv5 W1.heap.size W1).drew).trans (show Below W1.heap.size W1.drew wc3 from hbc3)).trans (hbc5.mono (show W1.heap.size ≤ wc3.heap.size from hbc3.size))).trans (hbc6.mono (Nat.le_trans (show W1.heap.size ≤ wc3.heap.size from hbc3.size) hbc5.size))
        have HBZ := zv3 g7 g1
        clear g1
        clear hbc3 hbc5 hbc6 hHeld
        go_wp2
        go_ret
        exact ⟨zf (by rw [HF3.out, HNO.out]), HBZ.out⟩
       ·have hd : decide (0 ≤ z) = false := decide_eq_false g3
        have j2 : Hid (V.okAt n l k = (decide (k = 0) || V.zaz n (l.getD (k - 1) V.noI) x)) := zv2 (by rw [j1.out, decide_eq_true (show z < 0 by omega)]; rfl)
        clear g3
        by_cases hk0 : k = 0
        ·have HOK : Hid (∀ i, i < k + 1 -> V.okAt n l i = true) := zv2 (zd5 HZ.out (by rw [j2.out, decide_eq_true hk0]; rfl))
         have k7 : decide ((0 : Int) < (k : Int)) = false := decide_eq_false (by omega)
         have k8 : decide (0 < k) = false := decide_eq_false (by omega)
         clear hk0
         refine wp_region_held_drew (S := (fun W' => zk W' /\ W'.cell? ⟨w.heap.size, 0, none⟩ = some (.int .i64 n) /\ W'.cell? ⟨w.heap.size, 1, none⟩ = some (.slice (some ⟨b, off, none⟩) l.length vc) /\ W'.cell? ⟨wr.heap.size, 0, none⟩ = some (.string ⟨x.lo.toArray⟩) /\ W'.cell? ⟨wr.heap.size, 1, none⟩ = some (.int .i64 x.lk) /\ W'.cell? ⟨wr.heap.size, 2, none⟩ = some (.string ⟨x.hi.toArray⟩) /\ W'.cell? ⟨wr.heap.size, 3, none⟩ = some (.int .i64 x.hk))) (by kernel_rfl) (by (try dsimp only); (try simp only [World.cell?_drew]); exact ⟨g6.out.below (zv5 _ _).drew, e0, e1, f0, f1, f2, f3⟩) (fun hHeld => ?_)
         refine tk 0 ?_
         refine tk 1 ?_
         refine tk 2 ?_
         refine tk 4 ?_
         refine rd 3 fun K hK => ?_
         go_simp
         refine (vg x _).mono ?_
         rintro e wc3 ⟨rfl, hbc3⟩
         try dsimp only
         refine hK.out _ _ ?_ (fun hHeld => ?_)
         ·exact zzc
         clear hK K
         try simp only [zvx, zvy, zvz, Act.put, zv0, List.set_cons_succ, List.set_cons_zero]
         refine rd 5 fun K hK => ?_
         go_simp
         refine (vp x _).mono ?_
         rintro e wc5 ⟨rfl, hbc5⟩
         try dsimp only
         refine hK.out _ _ ?_ (fun hHeld => ?_)
         ·exact zzb
         clear hK K
         try simp only [zvx, zvy, zvz, Act.put, zv0, List.set_cons_succ, List.set_cons_zero]
         refine rd 6 fun K hK => ?_
         go_simp
         refine (j0.out _ (by first | assumption | exact And.left (by assumption)) HSC.out (V.zai HBK.out) (V.zav HBK.out)).mono ?_
         rintro e wc6 ⟨rfl, hbc6⟩
         try dsimp only
         refine hK.out _ _ ?_ (fun hHeld => ?_)
         ·exact zza
         clear hK K
         try simp only [zvx, zvy, zvz, Act.put, zv0, List.set_cons_succ, List.set_cons_zero]
         refine tk 7 ?_
         refine tk 8 ?_
         refine tk 9 ?_
         refine tk 10 ?_
         refine tk 11 ?_
         refine tu 12 ?_
         refine tu 13 ?_
         refine tu 14 ?_
         refine tu 15 ?_
         refine tu 16 ?_
         refine tu 17 ?_
         refine tu 18 ?_
         refine tu 19 ?_
         refine tu 20 ?_
         refine tu 21 ?_
         refine tu 22 ?_
         refine tu 23 ?_
         refine tu 24 ?_
         refine tk 25 ?_
         refine tk 26 ?_
         refine wpAnyH_done (by kernel_rfl) ?_ _
         have g1 : Below W1.heap.size W1 wc6 := ((((zv5 W1.heap.size W1).drew).trans (show Below W1.heap.size W1.drew wc3 from hbc3)).trans (hbc5.mono (show W1.heap.size ≤ wc3.heap.size from hbc3.size))).trans (hbc6.mono (Nat.le_trans (show W1.heap.size ≤ wc3.heap.size from hbc3.size) hbc5.size))
         have HBZ := zv3 h4 g1
         clear g1
         clear hbc3 hbc5 hbc6 hHeld
         exact zx2
        ·have k7 : decide ((0 : Int) < (k : Int)) = true := decide_eq_true (by omega)
         have q1 : 0 < k := by omega
         have k8 : decide (0 < k) = true := decide_eq_true (by omega)
         have q2 : (1 : Int) ≤ (k : Int) := by omega
         have q3 : (k : Int) - 1 < (l.length : Int) := by omega
         have q4 : (0 : Int) ≤ (k : Int) - 1 := by omega
         have q5 : IntKind.i64.wrap ((k : Int) - 1) = (k : Int) - 1 := by rw [IntKind.wrap_i64]; omega
         have q6 : ((k : Int) - 1).toNat = k - 1 := by omega
         have j3 : k - 1 < l.length := by omega
         obtain ⟨b', off', eb, hb1, hy⟩ := HV.out.at (k - 1) j3
         cases eb
         obtain ⟨y0, y1, y2, y3⟩ := hy.below hb1 g7.out
         have HBY : Hid (V.zr n l[k - 1] = true) := zv2 (g9.out _ (List.getElem_mem j3))
         have k9 := zv2 (zh9 j3)
         generalize l[k - 1] = y at *
         obtain ⟨z2, h7⟩ : ∃ z, z = V.ecmp n (V.kr y) (V.eLow x) := ⟨_, rfl⟩
         have j4 : Hid (V.okAt n l k = decide (z2 < 0)) := zv2 (by rw [j2.out, decide_eq_false hk0, k9.out, h7]; exact (V.zum HBY.out HBK.out).symm)
         have j5 := yk n (V.kr y) (V.eLow x)
         rw [← h7] at j5
         have q0 := zv2 j5
         clear h7 j5 hy hk0 hb1
         refine wp_region_held_drew (S := (fun W' => zk W' /\ W'.cell? ⟨w.heap.size, 0, none⟩ = some (.int .i64 n) /\ W'.cell? ⟨w.heap.size, 1, none⟩ = some (.slice (some ⟨b, off, none⟩) l.length vc) /\ W'.cell? ⟨wr.heap.size, 0, none⟩ = some (.string ⟨x.lo.toArray⟩) /\ W'.cell? ⟨wr.heap.size, 1, none⟩ = some (.int .i64 x.lk) /\ W'.cell? ⟨wr.heap.size, 2, none⟩ = some (.string ⟨x.hi.toArray⟩) /\ W'.cell? ⟨wr.heap.size, 3, none⟩ = some (.int .i64 x.hk) /\ W'.cell? ⟨b, off + (k - 1) * 4, none⟩ = some (.string ⟨y.lo.toArray⟩) /\ W'.cell? ⟨b, off + (k - 1) * 4 + 1, none⟩ = some (.int .i64 y.lk) /\ W'.cell? ⟨b, off + (k - 1) * 4 + 2, none⟩ = some (.string ⟨y.hi.toArray⟩) /\ W'.cell? ⟨b, off + (k - 1) * 4 + 3, none⟩ = some (.int .i64 y.hk))) (by kernel_rfl) (by (try dsimp only); (try simp only [World.cell?_drew]); exact ⟨g6.out.below (zv5 _ _).drew, e0, e1, f0, f1, f2, f3, y0, y1, y2, y3⟩) (fun hHeld => ?_)
         refine tk 0 ?_
         refine tk 1 ?_
         refine tk 2 ?_
         refine tk 4 ?_
         refine rd 3 fun K hK => ?_
         go_simp
         refine (vg x _).mono ?_
         rintro e wc3 ⟨rfl, hbc3⟩
         try dsimp only
         refine hK.out _ _ ?_ (fun hHeld => ?_)
         ·(try dsimp only); go_split_ands; exact ⟨zk.below (by assumption) hbc3, zv8 hbc3, zv8 hbc3, zv8 hbc3, zv8 hbc3, zv8 hbc3, zv8 hbc3, zv8 hbc3, zv8 hbc3, zv8 hbc3, zv8 hbc3⟩
         clear hK K
         try simp only [zvx, zvy, zvz, Act.put, zv0, List.set_cons_succ, List.set_cons_zero]
         refine rd 5 fun K hK => ?_
         go_simp
         refine (vp x _).mono ?_
         rintro e wc5 ⟨rfl, hbc5⟩
         try dsimp only
         refine hK.out _ _ ?_ (fun hHeld => ?_)
         ·(try dsimp only); go_split_ands; exact ⟨zk.below (by assumption) hbc5, zv8 hbc5, zv8 hbc5, zv8 hbc5, zv8 hbc5, zv8 hbc5, zv8 hbc5, zv8 hbc5, zv8 hbc5, zv8 hbc5, zv8 hbc5⟩
         clear hK K
         try simp only [zvx, zvy, zvz, Act.put, zv0, List.set_cons_succ, List.set_cons_zero]
         refine rd 6 fun K hK => ?_
         go_simp
         refine (j0.out _ (by first | assumption | exact And.left (by assumption)) HSC.out (V.zai HBK.out) (V.zav HBK.out)).mono ?_
         rintro e wc6 ⟨rfl, hbc6⟩
         try dsimp only
         refine hK.out _ _ ?_ (fun hHeld => ?_)
         ·(try dsimp only); go_split_ands; exact ⟨zk.below (by assumption) hbc6, zv8 hbc6, zv8 hbc6, zv8 hbc6, zv8 hbc6, zv8 hbc6, zv8 hbc6, zv8 hbc6, zv8 hbc6, zv8 hbc6, zv8 hbc6⟩
         clear hK K
         try simp only [zvx, zvy, zvz, Act.put, zv0, List.set_cons_succ, List.set_cons_zero]
         refine tk 7 ?_
         refine tk 8 ?_
         refine tk 9 ?_
         refine tk 10 ?_
         refine tk 11 ?_
         refine tk 12 ?_
         refine tk 13 ?_
         refine tk 14 ?_
         refine tk 15 ?_
         refine tk 16 ?_
         refine tk 17 ?_
         refine tk 18 ?_
         refine tk 19 ?_
         refine tk 21 ?_
         refine rd 20 fun K hK => ?_
         go_simp
         refine (vp y _).mono ?_
         rintro e wc20 ⟨rfl, g0⟩
         try dsimp only
         refine hK.out _ _ ?_ (fun hHeld => ?_)
         ·(try dsimp only); go_split_ands; exact ⟨zk.below (by assumption) g0, zv8 g0, zv8 g0, zv8 g0, zv8 g0, zv8 g0, zv8 g0, zv8 g0, zv8 g0, zv8 g0, zv8 g0⟩
         clear hK K
         try simp only [zvx, zvy, zvz, Act.put, zv0, List.set_cons_succ, List.set_cons_zero]
         refine rd 22 fun K hK => ?_
         go_simp
         refine (vg x _).mono ?_
         rintro e wc22 ⟨rfl, hbc22⟩
         try dsimp only
         refine hK.out _ _ ?_ (fun hHeld => ?_)
         ·exact zyc
         clear hK K
         try simp only [zvx, zvy, zvz, Act.put, zv0, List.set_cons_succ, List.set_cons_zero]
         refine rd 23 fun K hK => ?_
         go_simp
         refine (q0.out _ (by first | assumption | exact And.left (by assumption)) HSC.out (V.zav HBY.out) (V.zai HBK.out)).mono ?_
         rintro e wc23 ⟨rfl, hbc23⟩
         try dsimp only
         refine hK.out _ _ ?_ (fun hHeld => ?_)
         ·exact zyb
         clear hK K
         try simp only [zvx, zvy, zvz, Act.put, zv0, List.set_cons_succ, List.set_cons_zero]
         refine tk 24 ?_
         refine tk 25 ?_
         refine tk 26 ?_
         refine wpAnyH_done (by kernel_rfl) ?_ _
         have g1 : Below W1.heap.size W1 wc6 := ((((zv5 W1.heap.size W1).drew).trans (show Below W1.heap.size W1.drew wc3 from hbc3)).trans (hbc5.mono (show W1.heap.size ≤ wc3.heap.size from hbc3.size))).trans (hbc6.mono (Nat.le_trans (show W1.heap.size ≤ wc3.heap.size from hbc3.size) hbc5.size))
         have h5 : Below wc6.heap.size wc6 wc23 := (g0.trans (hbc22.mono g0.size)).trans (hbc23.mono (Nat.le_trans g0.size hbc22.size))
         have HBZ := zv2 (h4.out.trans ((g1.trans (h5.mono g1.size)).mono h4.out.size))
         have j8 := zv2 (g7.out.trans ((g1.trans (h5.mono g1.size)).mono g7.out.size))
         clear hbc3 hbc5 hbc6 g0 hbc22 hbc23 hHeld g1 h5
         by_cases h7 : 0 ≤ z2
         ·have HNO : Hid (V.ordB n l = false) := zv2 (zgj hlt (by rw [j4.out]; exact decide_eq_false (by omega)))
          go_wp2
          go_ret
          exact ⟨zf (by rw [HF3.out, HNO.out]), j8.out⟩
         ·have HOK : Hid (∀ i, i < k + 1 -> V.okAt n l i = true) := zv2 (zd5 HZ.out (by rw [j4.out]; exact decide_eq_true (by omega)))
          exact zx2
      ·obtain rfl : k = l.length := by omega
       have HR : Hid (V.okR n l = true) := zv2 (by rw [HF3.out]; exact (V.zby n l).2 HZ.out)
       go_wp2
       go_ret
       exact ⟨zf HR.out.symm, h9.out⟩
end Go.Proofs.YtbikeahmldobkaaGreatDoor
